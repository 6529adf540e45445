/- chapter 15's example. -/
import Derived.Test.YtljmdeoamkmloaaDoorA3
import Derived.Test.YtljmdeoamkmloaaDoorK10
namespace Go.Proofs.YtljmdeoamkmloaaDoor
open Go.RowKit

theorem Tryd.info5 : (Tryd.prog.info? 5).map (fun i => (i.zero, i.size, i.bytes)) = some (some (.int .u8 0), 1, 1) := by kernel_rfl
theorem range32 (l : List Int) (h : ∀ x ∈ l, 0 ≤ x ∧ x ≤ 255) : ∀ x ∈ List.replicate 32 0 ++ l, 0 ≤ x ∧ x ≤ 255 := by
  intro x hx
  rcases List.mem_append.1 hx with h1 | h1
  · rw [(List.mem_replicate.1 h1).2]; omega
  · exact h x h1

set_option maxRecDepth 100000 in
set_option maxHeartbeats 4000000 in
theorem awake_any (w : World) : Calls Tryd.prog 5 #[] w fun x w' => x = .returned (.bool true) ∧ Ext w w' := by
  have hmk : ∀ W : World, (Instr.makeSlice 22 (.int .i64 32) (.int .i64 32)).run Tryd.prog W = .ok (.slice (some ⟨W.heap.size, 0, none⟩) 32 32) (W.alloc (.cells ((List.replicate 32 (0 : Int)).map (Value.int .u8)).toArray 5)) := fun _ => by kernel_rfl
  go_enter Tryd.func5, Tryd.ntmps5
  repeat' ((fail_if_success at_builtin); first | go_values | go_skip | go_guarded | go_step)
  refine wl_appB (T := tU8) (base := w.heap.size) rfl ((OwnR.ofBx (S := fun _ => False) (T := tU8) (xs := List.replicate 32 0) (Bx.new w ((List.replicate 32 (0 : Int)).map (Value.int .u8)) 5) (Nat.le_refl _) (Encs.u8s _ _ (List.replicate 32 0) (by decide)) 32 rfl (by decide)).ext (OnS.alloc _ _)) (lit8 _ 5 [.int .u8 5, .int .u8 0, .int .u8 0, .int .u8 0, .int .u8 7] [5, 0, 0, 0, 7] rfl (by decide) 5 rfl (by decide) (w.heap.size + 1) (by simp)) (fun _ h => h.flat) Tryd.underlying22 Tryd.info5 rfl (by decide) rfl rfl rfl ?_ ?_ ?_ (fun _ h => h.elim) 37 rfl ?_
  · simp; omega
  · simp [tInt]
  · simp
  intro A1 c1 w1 hO1 hW1
  have hE1 : Ext w w1 := OnS.since ((OnS.refl (fun _ => True) w).trans ((OnS.alloc _ _).trans (OnS.alloc _ _))) hW1 (fun i hi _ => by have := ((OnS.refl (fun _ => True) w)).size; omega)
  have hT1 : OnS (· < w.heap.size) w w1 := OnS.since (OnS.ext ((OnS.alloc _ _).trans (OnS.alloc _ _))) hW1 (fun i _ h => h)
  obtain ⟨B1, d1, h1, hR1⟩ := hO1.read (S' := fun _ => True) (fun _ _ => trivial) (fun _ _ _ => trivial) (by decide) (by decide)
  cases h1
  clear hW1 hO1
  repeat' (first | go_values | go_skip | go_guarded | go_step)
  refine (parse_head (hash := List.replicate 32 0) (f := 5) (c3 := 0) (c2 := 0) (c1 := 0) (c0 := 7) w1 (by decide) (by decide) hR1).mono ?_
  rintro e v1 ⟨rfl, hP1⟩
  dsimp only
  have e5 : headErr 5 = 0 := by decide
  have v5 : headVal (List.replicate 32 0) 5 (cnt [0, 0, 0, 7]) = authL (List.replicate 32 0) true true false 7 := by unfold headVal; rw [if_pos e5]; rfl
  rw [e5, v5]
  repeat' ((fail_if_success (with_reducible refine wl_skip (o := ⟨none, .store 36 _ _, _, _, _, _⟩) (w' := ?_) ?_ ?_ ?_ ?_)); first | go_values | go_skip | go_guarded | go_step)
  refine wl_store_part (vs := authL (List.replicate 32 0) true true false 7) (off := 0) rfl (Bx.new v1 ZA 36) rfl rfl rfl rfl rfl rfl (by decide) (by decide) ?_
  intro x1 hX1 hzz hK1
  clear hzz
  have hK1 : Bx x1 v1.heap.size 36 (authL (List.replicate 32 0) true true false 7) := hK1
  have hF1 : Ext w x1 := OnS.since ((hE1.trans hP1).trans (OnS.alloc _ _)) hX1 (fun i hi _ => by have := hE1.size; have := hP1.size; omega)
  repeat' ((fail_if_success at_builtin); first | go_values | go_skip | go_guarded | go_step)
  refine wl_appB (T := tU8) (base := x1.heap.size) rfl ((OwnR.ofBx (S := fun _ => False) (T := tU8) (xs := List.replicate 32 0) (Bx.new x1 ((List.replicate 32 (0 : Int)).map (Value.int .u8)) 5) (Nat.le_refl _) (Encs.u8s _ _ (List.replicate 32 0) (by decide)) 32 rfl (by decide)).ext (OnS.alloc _ _)) (lit8 _ 5 [.int .u8 7, .int .u8 0, .int .u8 0, .int .u8 0, .int .u8 7] [7, 0, 0, 0, 7] rfl (by decide) 5 rfl (by decide) (x1.heap.size + 1) (by simp)) (fun _ h => h.flat) Tryd.underlying22 Tryd.info5 rfl (by decide) rfl rfl rfl ?_ ?_ ?_ (fun _ h => h.elim) 37 rfl ?_
  · simp; omega
  · simp [tInt]
  · simp
  intro A2 c2 w2 hO2 hW2
  have hE2 : Ext w w2 := OnS.since (hF1.trans ((OnS.alloc _ _).trans (OnS.alloc _ _))) hW2 (fun i hi _ => by have := (hF1).size; omega)
  have hT2 : OnS (· < x1.heap.size) x1 w2 := OnS.since (OnS.ext ((OnS.alloc _ _).trans (OnS.alloc _ _))) hW2 (fun i _ h => h)
  obtain ⟨B2, d2, h2, hR2⟩ := hO2.read (S' := fun _ => True) (fun _ _ => trivial) (fun _ _ _ => trivial) (by decide) (by decide)
  cases h2
  clear hW2 hO2
  repeat' (first | go_values | go_skip | go_guarded | go_step)
  refine (parse_head (hash := List.replicate 32 0) (f := 7) (c3 := 0) (c2 := 0) (c1 := 0) (c0 := 7) w2 (by decide) (by decide) hR2).mono ?_
  rintro e v2 ⟨rfl, hP2⟩
  dsimp only
  have e7 : headErr 7 = 60 := by decide
  have v7 : headVal (List.replicate 32 0) 7 (cnt [0, 0, 0, 7]) = ZA := by unfold headVal; rw [if_neg (by rw [e7]; decide)]
  rw [e7, v7]
  repeat' ((fail_if_success (with_reducible refine wl_skip (o := ⟨none, .store 36 _ _, _, _, _, _⟩) (w' := ?_) ?_ ?_ ?_ ?_)); first | go_values | go_skip | go_guarded | go_step)
  refine wl_store_part (vs := ZA) (off := 0) rfl (Bx.new v2 ZA 36) rfl rfl rfl rfl rfl rfl (by decide) (by decide) ?_
  intro x2 hX2 hzz hzz2
  clear hzz hzz2
  have hF2 : Ext w x2 := OnS.since ((hE2.trans hP2).trans (OnS.alloc _ _)) hX2 (fun i hi _ => by have := hE2.size; have := hP2.size; omega)
  have hK2 : Bx x2 v1.heap.size 36 (authL (List.replicate 32 0) true true false 7) := by
    have hl := hK1.lt
    have k1 := hK1.to hT2 hl
    have hp2 := hP2.size
    have ht2 := hT2.size
    exact ((k1.to hP2 trivial).to (OnS.alloc _ _) trivial).to hX2 (by omega)
  have q32 : x2.cell? ⟨v1.heap.size, 32, none⟩ = some (.bool true) := by rw [hK2.cell]; rfl
  have q33 : x2.cell? ⟨v1.heap.size, 33, none⟩ = some (.bool true) := by rw [hK2.cell]; rfl
  have q34 : x2.cell? ⟨v1.heap.size, 34, none⟩ = some (.bool false) := by rw [hK2.cell]; rfl
  have q35 : x2.cell? ⟨v1.heap.size, 35, none⟩ = some (.int .u32 7) := by rw [hK2.cell]; rfl
  generalize (Value.agg ZA.toArray) = AV at *
  repeat' (first | go_values | go_skip | go_guarded | go_step)
  go_ret
  exact ⟨rfl, hF2⟩
end Go.Proofs.YtljmdeoamkmloaaDoor
