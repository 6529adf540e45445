/- Store: a credential without a key, copied. -/
import Derived.Test.YtolcjcdnkiabpaaS2
import Derived.Test.YtolcjcdnkiabpaaK14
import Derived.Test.YtolcjcdnkiabpaaK9
namespace Go.Proofs.Ytolcjcdnkiabpaa
open Go.RowKit

/-- A credential's cells, its key the zero one. -/
abbrev crL (id : Value) (user : ByteArray) (count trust : Int) (cloned : Bool) : List Value :=
  [id, .string user, .int .u8 0, .int .i64 0, .slice none 0 0, .slice none 0 0, .bool false, .slice none 0 0, .slice none 0 0, .int .u32 count, .int .u8 trust, .bool cloned]

set_option maxHeartbeats 1000000 in
theorem cloneN_nil (w : World) : Calls Try.prog 54 #[.slice none 0 0] w fun e w' => e = .returned (.slice none 0 0) ∧ w = w' := by
  have hq := fun a l c w => Lib.run_eql_slice_nil (P := Try.prog) w 33 71 a l c 0 0 Try.underlying33
  go_enter Try.func54, Try.ntmps54
  repeat' (first | go_values | go_skip | go_guarded | go_step)
  go_ret
  exact ⟨rfl, rfl⟩

set_option maxRecDepth 100000 in
set_option maxHeartbeats 2000000 in
theorem copied_nil {S : Nat → Prop} {A : Option Addr} {n c : Nat} {xs : List Int} (w : World) (user : ByteArray) (count trust : Int) (cloned : Bool) (H : SR S w tU8 A n c xs) :
    Calls Try.prog 30 #[.agg (crL (.slice A n c) user count trust cloned).toArray] w fun e w' => ∃ A' c', e = .returned (.agg (crL (.slice A' n c') user count trust cloned).toArray) ∧ Ext w w' ∧ SR (w.heap.size ≤ ·) w' tU8 A' n c' xs := by
  go_enter Try.func30, Try.ntmps30
  repeat' (first | go_values | go_skip | go_guarded | go_step)
  generalize hw2 : World.alloc (World.alloc w _) _ = w2
  have hE2 : Ext w w2 := hw2 ▸ (OnS.alloc _ _).trans (OnS.alloc _ _)
  have hB2 : Bx w2 w.heap.size 42 (crL (.slice A n c) user count trust cloned) := hw2 ▸ (Bx.new w _ 42).to (OnS.alloc _ _) trivial
  have hR2 : Bx w2 (w.heap.size + 1) 42 (crL (.slice none 0 0) { data := #[] } 0 0 false) := by
    have := Bx.new (w.alloc (.cells (crL (.slice A n c) user count trust cloned).toArray 42)) (crL (.slice none 0 0) { data := #[] } 0 0 false) 42
    rw [← hw2]
    simpa using this
  clear hw2
  have hz2 := hR2.lt
  refine (clone8 w2 (H.mono (OnS.ext hE2))).mono ?_
  rintro e w3 ⟨A', c', rfl, hE3, hS3, _⟩
  dsimp only
  have hB3 := hB2.to hE3 trivial
  have q0 := hB3.cell 0
  have f0 := hB3.frozen 0
  simp only [crL, List.getElem?_cons_zero, List.getElem?_cons_succ] at q0
  repeat' (first | go_values | go_skip | go_guarded | go_step)
  generalize hw4 : World.setCell w3 _ _ = w4
  have hO4 : OnS (· ≠ w.heap.size) w3 w4 := hw4 ▸ OnS.setCell w3 ⟨w.heap.size, 0, none⟩ _
  have hBw4 : Bx w4 w.heap.size 42 (crL (.slice A' n c') user count trust cloned) := hw4 ▸ hB3.set 0 (.slice A' n c')
  clear hw4 q0 f0
  refine region_tab (by kernel_rfl) (fun W => Bx W w.heap.size 42 (crL (.slice A' n c') user count trust cloned) ∧ OnS (· ≠ w.heap.size) w4 W) (fun i => ([(.pointer (some ⟨w.heap.size, 2, none⟩)), (.pointer (some ⟨w.heap.size, 4, none⟩)), (.pointer (some ⟨w.heap.size, 4, none⟩)), (.slice none 0 0), (.slice none 0 0), (.pointer (some ⟨w.heap.size, 2, none⟩)), (.pointer (some ⟨w.heap.size, 4, none⟩)), (.pointer (some ⟨w.heap.size, 5, none⟩)), (.slice none 0 0), (.slice none 0 0), (.pointer (some ⟨w.heap.size, 2, none⟩)), (.pointer (some ⟨w.heap.size, 4, none⟩)), (.pointer (some ⟨w.heap.size, 4, none⟩)), undef, (.pointer (some ⟨w.heap.size, 2, none⟩)), (.pointer (some ⟨w.heap.size, 4, none⟩)), (.pointer (some ⟨w.heap.size, 5, none⟩)), undef] : List Value).getD i undef) (by kernel_rfl) ⟨hBw4.to (OnS.drew _) trivial, OnS.ext (OnS.drew _)⟩ ?_ ?_
  · intro i o W ho ⟨hI, hO⟩ ρ hρ
    have hi : i < 18 := (Array.getElem?_eq_some_iff.1 ho).1
    have p4 := hI.cell 4
    have p5 := hI.cell 5
    have g4 := hI.frozen 4
    have g5 := hI.frozen 5
    simp only [crL, List.getElem?_cons_zero, List.getElem?_cons_succ] at p4 p5
    rcases (by omega : i = 0 ∨ i = 1 ∨ i = 2 ∨ i = 3 ∨ i = 4 ∨ i = 5 ∨ i = 6 ∨ i = 7 ∨ i = 8 ∨ i = 9 ∨ i = 10 ∨ i = 11 ∨ i = 12 ∨ i = 13 ∨ i = 14 ∨ i = 15 ∨ i = 16 ∨ i = 17) with rfl | rfl | rfl | rfl | rfl | rfl | rfl | rfl | rfl | rfl | rfl | rfl | rfl | rfl | rfl | rfl | rfl | rfl
    all_goals cases ho
    · have e1 : ρ (.tmp 1) = (.pointer (some ⟨w.heap.size, 0, none⟩)) := hρ (.tmp 1) (by simp [Op.operands, Call.operands])
      exact runsI_val (v := (.pointer (some ⟨w.heap.size, 2, none⟩))) (w' := W) (by clear hρ; go_simp) ⟨rfl, hI, hO⟩
    · have e7 : ρ (.tmp 7) = (.pointer (some ⟨w.heap.size, 2, none⟩)) := hρ (.tmp 7) (by simp [Op.operands, Call.operands])
      exact runsI_val (v := (.pointer (some ⟨w.heap.size, 4, none⟩))) (w' := W) (by clear hρ; go_simp) ⟨rfl, hI, hO⟩
    · have e8 : ρ (.tmp 8) = (.pointer (some ⟨w.heap.size, 4, none⟩)) := hρ (.tmp 8) (by simp [Op.operands, Call.operands])
      exact runsI_val (v := (.pointer (some ⟨w.heap.size, 4, none⟩))) (w' := W) (by clear hρ; go_simp) ⟨rfl, hI, hO⟩
    · have e9 : ρ (.tmp 9) = (.pointer (some ⟨w.heap.size, 4, none⟩)) := hρ (.tmp 9) (by simp [Op.operands, Call.operands])
      exact runsI_val (v := (.slice none 0 0)) (w' := W) (by clear hρ; go_simp) ⟨rfl, hI, hO⟩
    · have e10 : ρ (.tmp 10) = (.slice none 0 0) := hρ (.tmp 10) (by simp [Op.operands, Call.operands])
      have ef : ρ (.func 54) = .func (.func 54) #[] #[] := hρ (.func 54) (by simp [Op.operands, Call.operands])
      refine runsI_call (f := 54) (args := #[.slice none 0 0]) (w' := W) (by clear hρ; go_simp) ((cloneN_nil W).mono ?_)
      rintro e W' ⟨rfl, rfl⟩
      exact ⟨_, rfl, rfl, hI, hO⟩
    · have e1 : ρ (.tmp 1) = (.pointer (some ⟨w.heap.size, 0, none⟩)) := hρ (.tmp 1) (by simp [Op.operands, Call.operands])
      exact runsI_val (v := (.pointer (some ⟨w.heap.size, 2, none⟩))) (w' := W) (by clear hρ; go_simp) ⟨rfl, hI, hO⟩
    · have e12 : ρ (.tmp 12) = (.pointer (some ⟨w.heap.size, 2, none⟩)) := hρ (.tmp 12) (by simp [Op.operands, Call.operands])
      exact runsI_val (v := (.pointer (some ⟨w.heap.size, 4, none⟩))) (w' := W) (by clear hρ; go_simp) ⟨rfl, hI, hO⟩
    · have e13 : ρ (.tmp 13) = (.pointer (some ⟨w.heap.size, 4, none⟩)) := hρ (.tmp 13) (by simp [Op.operands, Call.operands])
      exact runsI_val (v := (.pointer (some ⟨w.heap.size, 5, none⟩))) (w' := W) (by clear hρ; go_simp) ⟨rfl, hI, hO⟩
    · have e14 : ρ (.tmp 14) = (.pointer (some ⟨w.heap.size, 5, none⟩)) := hρ (.tmp 14) (by simp [Op.operands, Call.operands])
      exact runsI_val (v := (.slice none 0 0)) (w' := W) (by clear hρ; go_simp) ⟨rfl, hI, hO⟩
    · have e15 : ρ (.tmp 15) = (.slice none 0 0) := hρ (.tmp 15) (by simp [Op.operands, Call.operands])
      have ef : ρ (.func 54) = .func (.func 54) #[] #[] := hρ (.func 54) (by simp [Op.operands, Call.operands])
      refine runsI_call (f := 54) (args := #[.slice none 0 0]) (w' := W) (by clear hρ; go_simp) ((cloneN_nil W).mono ?_)
      rintro e W' ⟨rfl, rfl⟩
      exact ⟨_, rfl, rfl, hI, hO⟩
    · have e1 : ρ (.tmp 1) = (.pointer (some ⟨w.heap.size, 0, none⟩)) := hρ (.tmp 1) (by simp [Op.operands, Call.operands])
      exact runsI_val (v := (.pointer (some ⟨w.heap.size, 2, none⟩))) (w' := W) (by clear hρ; go_simp) ⟨rfl, hI, hO⟩
    · have e17 : ρ (.tmp 17) = (.pointer (some ⟨w.heap.size, 2, none⟩)) := hρ (.tmp 17) (by simp [Op.operands, Call.operands])
      exact runsI_val (v := (.pointer (some ⟨w.heap.size, 4, none⟩))) (w' := W) (by clear hρ; go_simp) ⟨rfl, hI, hO⟩
    · have e18 : ρ (.tmp 18) = (.pointer (some ⟨w.heap.size, 4, none⟩)) := hρ (.tmp 18) (by simp [Op.operands, Call.operands])
      exact runsI_val (v := (.pointer (some ⟨w.heap.size, 4, none⟩))) (w' := W) (by clear hρ; go_simp) ⟨rfl, hI, hO⟩
    · have e19 : ρ (.tmp 19) = (.pointer (some ⟨w.heap.size, 4, none⟩)) := hρ (.tmp 19) (by simp [Op.operands, Call.operands])
      have e11 : ρ (.tmp 11) = (.slice none 0 0) := hρ (.tmp 11) (by simp [Op.operands, Call.operands])
      have hS : Bx (W.setCell ⟨w.heap.size, 4, none⟩ (.slice none 0 0)) w.heap.size 42 (crL (.slice A' n c') user count trust cloned) := hI.set 4 (.slice none 0 0)
      exact runsI_skip (w' := W.setCell ⟨w.heap.size, 4, none⟩ (.slice none 0 0)) (by clear hρ; go_simp) ⟨rfl, hS, hO.trans (OnS.setCell W ⟨w.heap.size, 4, none⟩ _)⟩
    · have e1 : ρ (.tmp 1) = (.pointer (some ⟨w.heap.size, 0, none⟩)) := hρ (.tmp 1) (by simp [Op.operands, Call.operands])
      exact runsI_val (v := (.pointer (some ⟨w.heap.size, 2, none⟩))) (w' := W) (by clear hρ; go_simp) ⟨rfl, hI, hO⟩
    · have e20 : ρ (.tmp 20) = (.pointer (some ⟨w.heap.size, 2, none⟩)) := hρ (.tmp 20) (by simp [Op.operands, Call.operands])
      exact runsI_val (v := (.pointer (some ⟨w.heap.size, 4, none⟩))) (w' := W) (by clear hρ; go_simp) ⟨rfl, hI, hO⟩
    · have e21 : ρ (.tmp 21) = (.pointer (some ⟨w.heap.size, 4, none⟩)) := hρ (.tmp 21) (by simp [Op.operands, Call.operands])
      exact runsI_val (v := (.pointer (some ⟨w.heap.size, 5, none⟩))) (w' := W) (by clear hρ; go_simp) ⟨rfl, hI, hO⟩
    · have e22 : ρ (.tmp 22) = (.pointer (some ⟨w.heap.size, 5, none⟩)) := hρ (.tmp 22) (by simp [Op.operands, Call.operands])
      have e16 : ρ (.tmp 16) = (.slice none 0 0) := hρ (.tmp 16) (by simp [Op.operands, Call.operands])
      have hS : Bx (W.setCell ⟨w.heap.size, 5, none⟩ (.slice none 0 0)) w.heap.size 42 (crL (.slice A' n c') user count trust cloned) := hI.set 5 (.slice none 0 0)
      exact runsI_skip (w' := W.setCell ⟨w.heap.size, 5, none⟩ (.slice none 0 0)) (by clear hρ; go_simp) ⟨rfl, hS, hO.trans (OnS.setCell W ⟨w.heap.size, 5, none⟩ _)⟩
  intro w5 ⟨hBw5, hO5⟩
  simp only [putL, Act.put, List.setIfInBounds_toArray, List.set_cons_zero, List.set_cons_succ, List.getD_cons_zero, List.getD_cons_succ]
  repeat' (first | go_values | go_skip | go_guarded | go_step)
  refine region_tab (by kernel_rfl) (fun W => Bx W w.heap.size 42 (crL (.slice A' n c') user count trust cloned) ∧ OnS (· ≠ w.heap.size) w5 W) (fun i => ([(.pointer (some ⟨w.heap.size, 2, none⟩)), (.pointer (some ⟨w.heap.size, 7, none⟩)), (.pointer (some ⟨w.heap.size, 7, none⟩)), (.slice none 0 0), (.slice none 0 0), (.pointer (some ⟨w.heap.size, 2, none⟩)), (.pointer (some ⟨w.heap.size, 7, none⟩)), (.pointer (some ⟨w.heap.size, 8, none⟩)), (.slice none 0 0), (.slice none 0 0), (.pointer (some ⟨w.heap.size, 2, none⟩)), (.pointer (some ⟨w.heap.size, 7, none⟩)), (.pointer (some ⟨w.heap.size, 7, none⟩)), undef, (.pointer (some ⟨w.heap.size, 2, none⟩)), (.pointer (some ⟨w.heap.size, 7, none⟩)), (.pointer (some ⟨w.heap.size, 8, none⟩)), undef] : List Value).getD i undef) (by kernel_rfl) ⟨hBw5.to (OnS.drew _) trivial, OnS.ext (OnS.drew _)⟩ ?_ ?_
  · intro i o W ho ⟨hI, hO⟩ ρ hρ
    have hi : i < 18 := (Array.getElem?_eq_some_iff.1 ho).1
    have p7 := hI.cell 7
    have p8 := hI.cell 8
    have g7 := hI.frozen 7
    have g8 := hI.frozen 8
    simp only [crL, List.getElem?_cons_zero, List.getElem?_cons_succ] at p7 p8
    rcases (by omega : i = 0 ∨ i = 1 ∨ i = 2 ∨ i = 3 ∨ i = 4 ∨ i = 5 ∨ i = 6 ∨ i = 7 ∨ i = 8 ∨ i = 9 ∨ i = 10 ∨ i = 11 ∨ i = 12 ∨ i = 13 ∨ i = 14 ∨ i = 15 ∨ i = 16 ∨ i = 17) with rfl | rfl | rfl | rfl | rfl | rfl | rfl | rfl | rfl | rfl | rfl | rfl | rfl | rfl | rfl | rfl | rfl | rfl
    all_goals cases ho
    · have e1 : ρ (.tmp 1) = (.pointer (some ⟨w.heap.size, 0, none⟩)) := hρ (.tmp 1) (by simp [Op.operands, Call.operands])
      exact runsI_val (v := (.pointer (some ⟨w.heap.size, 2, none⟩))) (w' := W) (by clear hρ; go_simp) ⟨rfl, hI, hO⟩
    · have e23 : ρ (.tmp 23) = (.pointer (some ⟨w.heap.size, 2, none⟩)) := hρ (.tmp 23) (by simp [Op.operands, Call.operands])
      exact runsI_val (v := (.pointer (some ⟨w.heap.size, 7, none⟩))) (w' := W) (by clear hρ; go_simp) ⟨rfl, hI, hO⟩
    · have e24 : ρ (.tmp 24) = (.pointer (some ⟨w.heap.size, 7, none⟩)) := hρ (.tmp 24) (by simp [Op.operands, Call.operands])
      exact runsI_val (v := (.pointer (some ⟨w.heap.size, 7, none⟩))) (w' := W) (by clear hρ; go_simp) ⟨rfl, hI, hO⟩
    · have e25 : ρ (.tmp 25) = (.pointer (some ⟨w.heap.size, 7, none⟩)) := hρ (.tmp 25) (by simp [Op.operands, Call.operands])
      exact runsI_val (v := (.slice none 0 0)) (w' := W) (by clear hρ; go_simp) ⟨rfl, hI, hO⟩
    · have e26 : ρ (.tmp 26) = (.slice none 0 0) := hρ (.tmp 26) (by simp [Op.operands, Call.operands])
      have ef : ρ (.func 54) = .func (.func 54) #[] #[] := hρ (.func 54) (by simp [Op.operands, Call.operands])
      refine runsI_call (f := 54) (args := #[.slice none 0 0]) (w' := W) (by clear hρ; go_simp) ((cloneN_nil W).mono ?_)
      rintro e W' ⟨rfl, rfl⟩
      exact ⟨_, rfl, rfl, hI, hO⟩
    · have e1 : ρ (.tmp 1) = (.pointer (some ⟨w.heap.size, 0, none⟩)) := hρ (.tmp 1) (by simp [Op.operands, Call.operands])
      exact runsI_val (v := (.pointer (some ⟨w.heap.size, 2, none⟩))) (w' := W) (by clear hρ; go_simp) ⟨rfl, hI, hO⟩
    · have e28 : ρ (.tmp 28) = (.pointer (some ⟨w.heap.size, 2, none⟩)) := hρ (.tmp 28) (by simp [Op.operands, Call.operands])
      exact runsI_val (v := (.pointer (some ⟨w.heap.size, 7, none⟩))) (w' := W) (by clear hρ; go_simp) ⟨rfl, hI, hO⟩
    · have e29 : ρ (.tmp 29) = (.pointer (some ⟨w.heap.size, 7, none⟩)) := hρ (.tmp 29) (by simp [Op.operands, Call.operands])
      exact runsI_val (v := (.pointer (some ⟨w.heap.size, 8, none⟩))) (w' := W) (by clear hρ; go_simp) ⟨rfl, hI, hO⟩
    · have e30 : ρ (.tmp 30) = (.pointer (some ⟨w.heap.size, 8, none⟩)) := hρ (.tmp 30) (by simp [Op.operands, Call.operands])
      exact runsI_val (v := (.slice none 0 0)) (w' := W) (by clear hρ; go_simp) ⟨rfl, hI, hO⟩
    · have e31 : ρ (.tmp 31) = (.slice none 0 0) := hρ (.tmp 31) (by simp [Op.operands, Call.operands])
      have ef : ρ (.func 54) = .func (.func 54) #[] #[] := hρ (.func 54) (by simp [Op.operands, Call.operands])
      refine runsI_call (f := 54) (args := #[.slice none 0 0]) (w' := W) (by clear hρ; go_simp) ((cloneN_nil W).mono ?_)
      rintro e W' ⟨rfl, rfl⟩
      exact ⟨_, rfl, rfl, hI, hO⟩
    · have e1 : ρ (.tmp 1) = (.pointer (some ⟨w.heap.size, 0, none⟩)) := hρ (.tmp 1) (by simp [Op.operands, Call.operands])
      exact runsI_val (v := (.pointer (some ⟨w.heap.size, 2, none⟩))) (w' := W) (by clear hρ; go_simp) ⟨rfl, hI, hO⟩
    · have e33 : ρ (.tmp 33) = (.pointer (some ⟨w.heap.size, 2, none⟩)) := hρ (.tmp 33) (by simp [Op.operands, Call.operands])
      exact runsI_val (v := (.pointer (some ⟨w.heap.size, 7, none⟩))) (w' := W) (by clear hρ; go_simp) ⟨rfl, hI, hO⟩
    · have e34 : ρ (.tmp 34) = (.pointer (some ⟨w.heap.size, 7, none⟩)) := hρ (.tmp 34) (by simp [Op.operands, Call.operands])
      exact runsI_val (v := (.pointer (some ⟨w.heap.size, 7, none⟩))) (w' := W) (by clear hρ; go_simp) ⟨rfl, hI, hO⟩
    · have e35 : ρ (.tmp 35) = (.pointer (some ⟨w.heap.size, 7, none⟩)) := hρ (.tmp 35) (by simp [Op.operands, Call.operands])
      have e27 : ρ (.tmp 27) = (.slice none 0 0) := hρ (.tmp 27) (by simp [Op.operands, Call.operands])
      have hS : Bx (W.setCell ⟨w.heap.size, 7, none⟩ (.slice none 0 0)) w.heap.size 42 (crL (.slice A' n c') user count trust cloned) := hI.set 7 (.slice none 0 0)
      exact runsI_skip (w' := W.setCell ⟨w.heap.size, 7, none⟩ (.slice none 0 0)) (by clear hρ; go_simp) ⟨rfl, hS, hO.trans (OnS.setCell W ⟨w.heap.size, 7, none⟩ _)⟩
    · have e1 : ρ (.tmp 1) = (.pointer (some ⟨w.heap.size, 0, none⟩)) := hρ (.tmp 1) (by simp [Op.operands, Call.operands])
      exact runsI_val (v := (.pointer (some ⟨w.heap.size, 2, none⟩))) (w' := W) (by clear hρ; go_simp) ⟨rfl, hI, hO⟩
    · have e36 : ρ (.tmp 36) = (.pointer (some ⟨w.heap.size, 2, none⟩)) := hρ (.tmp 36) (by simp [Op.operands, Call.operands])
      exact runsI_val (v := (.pointer (some ⟨w.heap.size, 7, none⟩))) (w' := W) (by clear hρ; go_simp) ⟨rfl, hI, hO⟩
    · have e37 : ρ (.tmp 37) = (.pointer (some ⟨w.heap.size, 7, none⟩)) := hρ (.tmp 37) (by simp [Op.operands, Call.operands])
      exact runsI_val (v := (.pointer (some ⟨w.heap.size, 8, none⟩))) (w' := W) (by clear hρ; go_simp) ⟨rfl, hI, hO⟩
    · have e38 : ρ (.tmp 38) = (.pointer (some ⟨w.heap.size, 8, none⟩)) := hρ (.tmp 38) (by simp [Op.operands, Call.operands])
      have e32 : ρ (.tmp 32) = (.slice none 0 0) := hρ (.tmp 32) (by simp [Op.operands, Call.operands])
      have hS : Bx (W.setCell ⟨w.heap.size, 8, none⟩ (.slice none 0 0)) w.heap.size 42 (crL (.slice A' n c') user count trust cloned) := hI.set 8 (.slice none 0 0)
      exact runsI_skip (w' := W.setCell ⟨w.heap.size, 8, none⟩ (.slice none 0 0)) (by clear hρ; go_simp) ⟨rfl, hS, hO.trans (OnS.setCell W ⟨w.heap.size, 8, none⟩ _)⟩
  intro w6 ⟨hBw6, hO6⟩
  simp only [putL, Act.put, List.setIfInBounds_toArray, List.set_cons_zero, List.set_cons_succ, List.getD_cons_zero, List.getD_cons_succ]
  have hz3 := hE3.size
  have hR6 := (((hR2.to hE3 trivial).to hO4 (by omega)).to hO5 (by omega)).to hO6 (by omega)
  repeat' ((fail_if_success (with_reducible refine wl_run (o := ⟨_, .load 42 _, _, _, _, _⟩) (w' := ?_) (v := ?_) ?_ ?_ ?_)); first | go_values | go_skip | go_guarded | go_step)
  refine wl_load_part (vs := crL (.slice A' n c') user count trust cloned) (off := 0) rfl hBw6 rfl rfl (by kernel_rfl) rfl rfl ?_
  refine wl_store_part (vs := crL (.slice A' n c') user count trust cloned) (off := 0) rfl hR6 rfl rfl rfl rfl rfl rfl (by simp) (by simp [Value.oneCell']) ?_
  intro w7 hO7 hzz hR7
  clear hzz
  have hR7 : Bx w7 (w.heap.size + 1) 42 (crL (.slice A' n c') user count trust cloned) := hR7
  repeat' (first | go_values | go_skip | go_guarded | go_step)
  have hld := run_load_part (P := Try.prog) (t := 42) (off := 0) (vs := crL (.slice A' n c') user count trust cloned) hR7 (by kernel_rfl) rfl rfl
  have hO47 : OnS (fun k => k ≠ w.heap.size ∧ k ≠ w.heap.size + 1) w3 w7 := (((hO4.weaken (fun _ _ h => h.1)).trans (hO5.weaken (fun _ _ h => h.1))).trans (hO6.weaken (fun _ _ h => h.1))).trans (hO7.weaken (fun _ _ h => h.2))
  refine bodyPost_ret (v := .agg (crL (.slice A' n c') user count trust cloned).toArray) (by simp [results, Try.results30, asAddr, hld, Act.put]) rfl ⟨A', c', rfl, ?_, ?_⟩
  · exact OnS.since (hE2.trans hE3) hO47 (fun k hk _ => ⟨by omega, by omega⟩)
  · have h2 := hE2.size
    exact (hS3.mono (hO47.weaken (fun k _ hk => ⟨by omega, by omega⟩))).weaken (by decide) (fun k _ hk => by omega)
end Go.Proofs.Ytolcjcdnkiabpaa
