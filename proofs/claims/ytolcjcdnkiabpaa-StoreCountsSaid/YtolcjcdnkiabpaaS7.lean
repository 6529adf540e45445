/- Store: New, Len, Awake. -/
import Derived.Test.YtolcjcdnkiabpaaS6
import Derived.Test.YtolcjcdnkiabpaaK8
namespace Go.Proofs.Ytolcjcdnkiabpaa
open Go.RowKit

theorem new_any (w : World) (room : Int) : Calls Try.prog 9 #[.int .i64 room] w fun e w' => ∃ sb, e = .returned (.pointer (some ⟨sb, 0, none⟩)) ∧ w.heap.size ≤ sb ∧ Ext w w' ∧ Bx w' sb 79 [.int .i64 room, .slice none 0 0] := by
  go_enter Try.func9, Try.ntmps9
  repeat' (first | go_values | go_skip | go_guarded | go_step)
  go_ret
  exact ⟨_, rfl, Nat.le_refl _, OnS.alloc _ _, Bx.new w _ 79⟩

theorem len_any {sb g cap n : Nat} {room : Int} (w : World) (hs : Bx w sb 79 [.int .i64 room, .slice (some ⟨g, 0, none⟩) n cap]) :
    Calls Try.prog 26 #[.pointer (some ⟨sb, 0, none⟩)] w fun e w' => e = .returned (.int .i64 n) ∧ w' = w := by
  have p1 := hs.cell 1
  simp only [List.getElem?_cons_zero, List.getElem?_cons_succ] at p1
  go_enter Try.func26, Try.ntmps26
  repeat' (first | go_values | go_skip | go_guarded | go_step)
  go_ret
  exact ⟨rfl, rfl⟩

set_option maxRecDepth 100000 in
set_option maxHeartbeats 4000000 in
theorem awake_any (w : World) : Calls Try.prog 8 #[] w fun e w' => e = .returned (.bool true) ∧ Ext w w' := by
  go_enter Try.func8, Try.ntmps8
  repeat' (first | go_values | go_skip | go_guarded | go_step)
  refine (new_any w 3).mono ?_
  rintro e w1 ⟨sb, rfl, hsb, hE1, hs1⟩
  dsimp only
  repeat' (first | go_values | go_skip | go_guarded | go_step)
  have hA1 := lit8 w1 5 [.int .u8 1] [1] rfl (by decide) 1 rfl (by decide) w1.heap.size rfl
  generalize hw2 : World.alloc w1 _ = w2
  have hE2 : Ext w1 w2 := hw2 ▸ OnS.alloc _ _
  rw [show World.alloc w1 _ = w2 from hw2] at hA1
  clear hw2
  have hs2 := hs1.to hE2 trivial
  refine (put_nil w2 { data := #[117] } 5 0 false hs2 hA1 (by decide) (by decide) (by decide)).mono ?_
  rintro e w3 ⟨rfl, hO3, g, cap, A', c', more, hg, hs3, hg3, hS3⟩
  dsimp only
  have hz1 := hE1.size
  have hz2 := hE2.size
  have hz3 := hO3.size
  have hsl := hs2.lt
  repeat' (first | go_values | go_skip | go_guarded | go_step)
  have hA2 := lit8 w3 5 [.int .u8 1] [1] rfl (by decide) 1 rfl (by decide) w3.heap.size rfl
  generalize hw4 : World.alloc w3 _ = w4
  have hE4 : Ext w3 w4 := hw4 ▸ OnS.alloc _ _
  rw [show World.alloc w3 _ = w4 from hw4] at hA2
  clear hw4
  have hS4 := (hS3.mono (OnS.ext hE4))
  refine (mark_one w4 { data := #[117] } 5 0 false (hs3.to hE4 trivial) (hg3.to hE4 trivial) (hS4.weaken (S' := fun _ => True) (by decide) (fun _ _ _ => trivial)) hA2 3 false).mono ?_
  rintro e w5 ⟨rfl, hO5, hg5⟩
  dsimp only
  have hS5 := (hS4.weaken (S' := fun k => k ≠ g) (by decide) (fun _ _ h => h.2)).mono hO5
  have hs5 := (hs3.to hE4 trivial).to hO5 (by omega)
  have hz4 := hE4.size
  have hz5 := hO5.size
  repeat' (first | go_values | go_skip | go_guarded | go_step)
  have hA3 := lit8 w5 5 [.int .u8 1] [1] rfl (by decide) 1 rfl (by decide) w5.heap.size rfl
  generalize hw6 : World.alloc w5 _ = w6
  have hE6 : Ext w5 w6 := hw6 ▸ OnS.alloc _ _
  rw [show World.alloc w5 _ = w6 from hw6] at hA3
  clear hw6
  refine (get_one w6 { data := #[117] } 5 0 false (hs5.to hE6 trivial) (hg5.to hE6 trivial) ((hS5.mono (OnS.ext hE6)).weaken (S' := fun _ => True) (by decide) (fun _ _ _ => trivial)) hA3).mono ?_
  rintro e w7 ⟨⟨A7, c7, rfl⟩, hE7⟩
  dsimp only
  have hs7 := (hs5.to hE6 trivial).to hE7 trivial
  repeat' ((fail_if_success (with_reducible refine wl_skip (o := ⟨none, .store 42 _ _, _, _, _, _⟩) (w' := ?_) ?_ ?_ ?_ ?_)); first | go_values | go_skip | go_guarded | go_step)
  generalize hw8 : World.alloc w7 _ = w8
  have hE8 : Ext w7 w8 := hw8 ▸ OnS.alloc _ _
  have hR8 : Bx w8 w7.heap.size 42 (crL (.slice none 0 0) { data := #[] } 0 0 false) := hw8 ▸ Bx.new w7 _ 42
  clear hw8
  refine wl_store_part (vs := crL (.slice A7 1 c7) { data := #[117] } 5 0 false) (off := 0) rfl hR8 rfl rfl rfl rfl rfl rfl (by simp) (by simp [Value.oneCell']) ?_
  intro w9 hO9 hzz hR9
  clear hzz
  have hR9 : Bx w9 w7.heap.size 42 (crL (.slice A7 1 c7) { data := #[117] } 5 0 false) := hR9
  have hz6 := hE6.size
  have hz7 := hE7.size
  have hs9 := (hs7.to hE8 trivial).to hO9 (by have := hs7.lt; omega)
  have r9 := hR9.cell 9
  simp only [crL, List.getElem?_cons_zero, List.getElem?_cons_succ] at r9
  repeat' (first | go_values | go_skip | go_guarded | go_step)
  refine (len_any w9 hs9).mono ?_
  rintro e w10 ⟨rfl, rfl⟩
  dsimp only
  repeat' (first | go_values | go_skip | go_guarded | go_step)
  go_ret
  refine ⟨rfl, ?_⟩
  have e1 : Ext w w3 := OnS.since (hE1.trans hE2) hO3 (fun k hk _ => by omega)
  have e2 : Ext w w5 := OnS.since (e1.trans hE4) hO5 (fun k hk _ => by omega)
  exact OnS.since (e2.trans (hE6.trans (hE7.trans hE8))) hO9 (fun k hk _ => by omega)
end Go.Proofs.Ytolcjcdnkiabpaa
