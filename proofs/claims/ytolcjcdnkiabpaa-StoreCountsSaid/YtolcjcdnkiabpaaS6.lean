/- Store: Get, Mark where there is one. -/
import Derived.Test.YtolcjcdnkiabpaaS5
namespace Go.Proofs.Ytolcjcdnkiabpaa
open Go.RowKit

set_option maxRecDepth 100000 in
set_option maxHeartbeats 4000000 in
theorem get_one {S : Nat → Prop} {A B : Option Addr} {n c m d g cap sb : Nat} {xs : List Int} {more : List Value} {room : Int} (w : World) (user : ByteArray) (count trust : Int) (cloned : Bool) (hs : Bx w sb 79 [.int .i64 room, .slice (some ⟨g, 0, none⟩) 1 cap]) (hg : Bx w g 42 (crL (.slice A n c) user count trust cloned ++ more)) (HA : SR S w tU8 A n c xs) (HB : SR S w tU8 B m d xs) :
    Calls Try.prog 12 #[.pointer (some ⟨sb, 0, none⟩), .slice B m d] w fun e w' => (∃ A' c', e = .returned (.tuple #[.agg (crL (.slice A' n c') user count trust cloned).toArray, .bool true])) ∧ Ext w w' := by
  go_enter Try.func12, Try.ntmps12
  iterate 5 (first | go_values | go_skip | go_guarded | go_step)
  generalize hw1 : World.alloc w _ = w1
  have hE1 : Ext w w1 := hw1 ▸ OnS.alloc _ _
  have hR1 : Bx w1 w.heap.size 42 (crL (.slice none 0 0) { data := #[] } 0 0 false) := hw1 ▸ Bx.new w _ 42
  clear hw1
  repeat' (first | go_values | go_skip | go_guarded | go_step)
  refine (find_one w1 user count trust cloned (hs.to hE1 trivial) (hg.to hE1 trivial) (HA.mono (OnS.ext hE1)) (HB.mono (OnS.ext hE1))).mono ?_
  rintro e w2 ⟨rfl, hE2⟩
  dsimp only
  have hE12 := hE1.trans hE2
  have hs2 := hs.to hE12 trivial
  have hg2 := hg.to hE12 trivial
  have p1 := hs2.cell 1
  simp only [List.getElem?_cons_zero, List.getElem?_cons_succ] at p1
  repeat' ((fail_if_success (with_reducible refine wl_run (o := ⟨_, .load 42 _, _, _, _, _⟩) (w' := ?_) (v := ?_) ?_ ?_ ?_)); first | go_values | go_skip | go_guarded | go_step)
  refine wl_load_part (vs := crL (.slice A n c) user count trust cloned) (off := 0) rfl hg2 rfl rfl (by kernel_rfl) rfl rfl ?_
  repeat' (first | go_values | go_skip | go_guarded | go_step)
  refine (copied_nil w2 user count trust cloned (HA.mono (OnS.ext hE12))).mono ?_
  rintro e w3 ⟨A', c', rfl, hE3, _⟩
  dsimp only
  have hR3 := (hR1.to hE2 trivial).to hE3 trivial
  repeat' ((fail_if_success (with_reducible refine wl_skip (o := ⟨none, .store 42 _ _, _, _, _, _⟩) (w' := ?_) ?_ ?_ ?_ ?_)); first | go_values | go_skip | go_guarded | go_step)
  refine wl_store_part (vs := crL (.slice A' n c') user count trust cloned) (off := 0) rfl hR3 rfl rfl rfl rfl rfl rfl (by simp) (by simp [Value.oneCell']) ?_
  intro w4 hO4 hzz hR4
  clear hzz
  have hR4 : Bx w4 w.heap.size 42 (crL (.slice A' n c') user count trust cloned) := hR4
  repeat' (first | go_values | go_skip | go_guarded | go_step)
  have hld := run_load_part (P := Try.prog) (t := 42) (off := 0) (vs := crL (.slice A' n c') user count trust cloned) hR4 (by kernel_rfl) rfl rfl
  refine bodyPost_ret (v := .tuple #[.agg (crL (.slice A' n c') user count trust cloned).toArray, .bool true]) (by simp [results, Try.results12, asAddr, hld, Act.put]) rfl ⟨⟨A', c', rfl⟩, ?_⟩
  exact OnS.since (hE12.trans hE3) hO4 (fun k hk _ => by omega)

set_option maxRecDepth 100000 in
set_option maxHeartbeats 4000000 in
theorem mark_one {S : Nat → Prop} {A B : Option Addr} {n c m d g cap sb : Nat} {xs : List Int} {more : List Value} {room : Int} (w : World) (user : ByteArray) (count trust : Int) (cloned : Bool) (hs : Bx w sb 79 [.int .i64 room, .slice (some ⟨g, 0, none⟩) 1 cap]) (hg : Bx w g 42 (crL (.slice A n c) user count trust cloned ++ more)) (HA : SR S w tU8 A n c xs) (HB : SR S w tU8 B m d xs) (q : Int) (b : Bool) :
    Calls Try.prog 11 #[.pointer (some ⟨sb, 0, none⟩), .slice B m d, .int .u32 q, .bool b] w fun e w' => e = .returned (.int .i64 0) ∧ OnS (· ≠ g) w w' ∧ Bx w' g 42 (crL (.slice A n c) user (max count q) trust (cloned || b) ++ more) := by
  go_enter Try.func11, Try.ntmps11
  repeat' (first | go_values | go_skip | go_guarded | go_step)
  refine (find_one w user count trust cloned hs hg HA HB).mono ?_
  rintro e w2 ⟨rfl, hE2⟩
  dsimp only
  have hs2 := hs.to hE2 trivial
  have hg2 := hg.to hE2 trivial
  have p1 := hs2.cell 1
  have r9 := hg2.cell 9
  have r11 := hg2.cell 11
  have f9 := hg2.frozen 9
  have f11 := hg2.frozen 11
  simp only [crL, List.cons_append, List.getElem?_cons_zero, List.getElem?_cons_succ] at p1 r9 r11
  repeat' (first | go_values | go_skip | go_guarded | go_step)
  cases cloned
  all_goals
    go_region
    have hmx : (if count < q then q else count) = max count q := by
      rw [Int.max_def]; split <;> split <;> omega
    rw [hmx]
    obtain ⟨mx, hmx2⟩ : ∃ mx, max count q = mx := ⟨_, rfl⟩
    rw [hmx2]
    clear hmx r9 r11 f9 f11 p1
    repeat' (first | go_values | go_skip | go_guarded | go_step)
    go_ret
  · refine ⟨rfl, (OnS.ext hE2).trans (((OnS.setCell w2 ⟨g, 9, none⟩ _).trans (OnS.setCell _ ⟨g, 11, none⟩ _)).trans (OnS.ext (OnS.drew _))), ?_⟩
    have hg3 := ((hg2.set 9 (.int .u32 mx)).set 11 (.bool b)).to (OnS.drew _) trivial
    rw [hmx2, Bool.false_or]
    exact hg3
  · refine ⟨rfl, (OnS.ext hE2).trans (((OnS.setCell w2 ⟨g, 9, none⟩ _).trans (OnS.setCell _ ⟨g, 11, none⟩ _)).trans (OnS.ext (OnS.drew _))), ?_⟩
    have hg3 := ((hg2.set 9 (.int .u32 mx)).set 11 (.bool true)).to (OnS.drew _) trivial
    rw [hmx2, Bool.true_or]
    exact hg3
end Go.Proofs.Ytolcjcdnkiabpaa
