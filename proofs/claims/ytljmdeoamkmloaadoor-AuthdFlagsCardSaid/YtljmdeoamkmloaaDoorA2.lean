/- authd.Parse of short bytes, and of a head alone. -/
import Derived.Test.YtljmdeoamkmloaaDoorA1
import Derived.WalkLawsBesides
namespace Go.Proofs.YtljmdeoamkmloaaDoor
open Go.RowKit

/-- Said data, cell by cell. -/
def authL (hash : List Int) (p v h : Bool) (count : Int) : List Value :=
  hash.map (.int .u8) ++ [.bool p, .bool v, .bool h, .int .u32 count] ++ (List.replicate 16 0).map (.int .u8) ++ [.slice none 0 0, .int .u8 0, .int .u64 0, .slice none 0 0, .slice none 0 0, .int .u8 0, .int .u64 0, .slice none 0 0, .slice none 0 0]
def ZA : List Value := authL (List.replicate 32 0) false false false 0

set_option maxRecDepth 100000 in
set_option maxHeartbeats 4000000 in
theorem parse_short {A : Option Addr} {n c : Nat} (w : World) (hn : n < 37) :
    Calls Tryd.prog 7 #[.slice A n c] w fun x w' => x = .returned (.tuple #[.agg ZA.toArray, .int .i64 60]) ∧ Ext w w' := by
  have hd : decide ((n : Int) < 37) = true := by simp; omega
  go_enter Tryd.func7, Tryd.ntmps7
  iterate 6 (first | go_values | go_skip | go_guarded | go_step)
  generalize hw1 : World.alloc w _ = w1
  have hE1 : Ext w w1 := hw1 ▸ OnS.alloc _ _
  have hR1 : Bx w1 w.heap.size 36 ZA := hw1 ▸ Bx.new w ZA 36
  have hz1 : w1.heap.size = w.heap.size + 1 := hw1 ▸ by simp
  clear hw1
  repeat' ((fail_if_success (with_reducible refine wl_skip (o := ⟨none, .store 36 _ _, _, _, _, _⟩) (w' := ?_) ?_ ?_ ?_ ?_)); first | go_values | go_skip | go_guarded | go_step)
  refine wl_store_part (vs := ZA) rfl (hR1.to (OnS.alloc _ _) trivial) rfl rfl rfl rfl rfl rfl (by decide) (by decide) ?_
  intro w2 hO2 hz2 hR2
  have hR3 : Bx w2 w.heap.size 36 ZA := hR2
  clear hR2
  repeat' (first | go_values | go_skip | go_guarded | go_step)
  have hld := run_load_part (P := Tryd.prog) (t := 36) (off := 0) (vs := ZA) hR3 (by kernel_rfl) rfl rfl
  refine bodyPost_ret (v := .tuple #[.agg ZA.toArray, .int .i64 60]) (by simp [results, Tryd.results7, asAddr, hld]) rfl ⟨rfl, ?_⟩
  exact OnS.since (hE1.trans (OnS.alloc _ _)) hO2 (fun i hi _ => by omega)
end Go.Proofs.YtljmdeoamkmloaaDoor
