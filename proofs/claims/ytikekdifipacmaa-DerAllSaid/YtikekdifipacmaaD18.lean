import Derived.Test.YtikekdifipacmaaD16
import Derived.Test.YtikekdifipacmaaD17
import Derived.Lib.SlBytesConst
namespace Go.Proofs.Ytikekdifipacmaa
open Go.RowKit

theorem rd0 : derRead [48, 3, 2, 1, 5] = (48, [2, 1, 5], [], 0) := by decide

theorem range5 : ∀ x ∈ ([48, 3, 2, 1, 5] : List Int), 0 ≤ x ∧ x ≤ 255 := by decide

/-- A literal's bytes. -/
theorem Encs.u8s (S : Nat → Prop) (w : World) : ∀ xs : List Int, (∀ x ∈ xs, 0 ≤ x ∧ x ≤ 255) → Encs S w tU8 (xs.map (.int .u8)) xs := by
  intro xs h
  refine ⟨by simp [tInt], fun i hi => ?_⟩
  have := h xs[i] (List.getElem_mem _)
  refine ⟨?_, by simpa [IntKind.min, IntKind.signed] using this.1, by simpa [IntKind.max, IntKind.signed, IntKind.bits] using this.2⟩
  rw [show tU8.size = 1 from rfl, Nat.mul_one, List.take_one, List.head?_drop]
  simp [hi]

theorem SR.ofMark (w : World) (fr : Nat × Nat) (xs : List Int) (h : ∀ x ∈ xs, 0 ≤ x ∧ x ≤ 255) (n : Nat) (hn : n = xs.length) (hs : n ≤ 1000) :
    SR (fun _ => True) (w.alloc (.cells (xs.map (.int .u8)).toArray 5 fr)) tU8 (some ⟨w.heap.size, 0, none⟩) n n xs := by
  refine ⟨hn.symm, Nat.le_refl _, by simp [tInt]; omega, by omega, fun h => (by cases h), _, Encs.u8s _ _ xs h, fun ad ha _ => ?_⟩
  cases ha
  refine ⟨trivial, rfl, fun j hj => ?_⟩
  have := World.cell?_alloc_mark w (xs.map (.int .u8)).toArray 5 fr j
  have e : (⟨w.heap.size, 0, none⟩ : Addr).add j = ⟨w.heap.size, j, none⟩ := by
    unfold Addr.add
    by_cases h0 : j = 0 <;> simp [h0]
  rw [e]
  simpa using this

set_option maxRecDepth 100000 in
set_option maxHeartbeats 4000000 in
theorem awake_any (w : World) : Calls Try.prog 7 #[] w fun e w' => e = .returned (.bool true) ∧ Ext w w' := by
  go_enter Try.func7, Try.ntmps7
  repeat' go_step
  generalize hw1 : World.alloc w _ = w1
  have hE1 : Ext w w1 := hw1 ▸ OnS.alloc w _
  have hB1 : Bx w1 w.heap.size 5 (([48, 3, 2, 1, 5] : List Int).map (.int .u8)) := hw1 ▸ Bx.new w (([48, 3, 2, 1, 5] : List Int).map (.int .u8)) 5
  clear hw1
  refine (read_any w1 (SR.ofBx (S := fun _ => True) hB1 (Encs.u8s _ _ _ range5) trivial 5 rfl (by decide) (by decide))).mono ?_
  rw [rd0]
  rintro x w2 ⟨_, rfl, hE2, A1, n1, c1, A2, n2, c2, rfl, hR1, hR2⟩
  dsimp only
  have hE12 := hE1.trans hE2
  have hn2 := hR2.len
  simp only [List.length_nil] at hn2
  subst hn2
  repeat' go_step
  generalize hw3 : World.alloc w2 _ = w3
  have hE3 : Ext w2 w3 := hw3 ▸ OnS.alloc w2 _
  have hT3 : Bx w3 w2.heap.size 28 [.int .u8 48, .slice A1 n1 c1] := hw3 ▸ Bx.new w2 [.int .u8 48, .slice A1 n1 c1] 28
  have hz3 : w3.heap.size = w2.heap.size + 1 := hw3 ▸ World.size_alloc _ _
  clear hw3
  have hE123 := hE12.trans hE3
  have hL3 : Bx (w3.alloc (.cells #[.int .u8 0, .int .u8 5] 5)) (w2.heap.size + 1) 5 [.int .u8 0, .int .u8 5] := hz3 ▸ Bx.new w3 [.int .u8 0, .int .u8 5] 5
  refine (int05 _ hL3).mono ?_
  rintro x w4 ⟨⟨A3, n3, c3, rfl⟩, hE4⟩
  dsimp only
  have hF4 : Ext w3 w4 := (OnS.alloc _ _).trans hE4
  have hT4 := hT3.to hF4 trivial
  have hE1234 := hE123.trans hF4
  clear hL3 hE4 hT3 hE3 hE2 hE1 hB1 hR1 hR2
  repeat' go_step
  have hL4 : Bx (w4.alloc (.cells #[.int .u8 42, .int .u8 134, .int .u8 72] 5)) w4.heap.size 5 [.int .u8 42, .int .u8 134, .int .u8 72] := Bx.new w4 [.int .u8 42, .int .u8 134, .int .u8 72] 5
  refine (oid840 _ hL4).mono ?_
  rintro x w5 ⟨A4, c4, rfl, hE5, hR5⟩
  dsimp only
  have hF5 : Ext w4 w5 := (OnS.alloc _ _).trans hE5
  have hT5 := hT4.to hF5 trivial
  have hE12345 := hE1234.trans hF5
  clear hL4 hE5 hT4 hF4 hE1234 hE123 hE12 hF5 hz3
  have hcv := Lib.run_convert_bytes_const (P := Try.prog) w5 25 5 #[.int .u8 55, .int .u8 48, .int .u8 48, .int .u8 49, .int .u8 48, .int .u8 49, .int .u8 48, .int .u8 48, .int .u8 48, .int .u8 48, .int .u8 48, .int .u8 49, .int .u8 90] 13 13 Try.underlying25 Try.underlying5
  simp only [List.size_toArray, List.length_cons, List.length_nil, Nat.zero_add, Nat.reduceAdd] at hcv
  repeat' go_step
  have hL5 : SR (fun _ => True) (w5.alloc (.cells #[.int .u8 55, .int .u8 48, .int .u8 48, .int .u8 49, .int .u8 48, .int .u8 49, .int .u8 48, .int .u8 48, .int .u8 48, .int .u8 48, .int .u8 48, .int .u8 49, .int .u8 90] 5 (13, 14))) tU8 (some ⟨w5.heap.size, 0, none⟩) 13 13 (([7, 0, 0, 1, 0, 1, 0, 0, 0, 0, 0, 1] : List Int).map (48 + ·) ++ [90]) :=
    (show (([7, 0, 0, 1, 0, 1, 0, 0, 0, 0, 0, 1] : List Int).map (48 + ·) ++ [90]) = [55, 48, 48, 49, 48, 49, 48, 48, 48, 48, 48, 49, 90] by decide) ▸ SR.ofMark w5 (13, 14) [55, 48, 48, 49, 48, 49, 48, 48, 48, 48, 48, 49, 90] (by decide) 13 rfl (by decide)
  refine (time23_b _ hL5 (by decide) 70 1 1 0 0 1 rfl 0 (by decide) rfl (by decide) (by decide) (by decide) (by decide) (by decide) (by decide) (by decide) (by decide) (by decide) (by decide)).mono ?_
  rw [show ((((365 * ((70 : Int) + 1900 - 1970) + ((70 + 1900 - 1) / 4 - (70 + 1900 - 1) / 100 + (70 + 1900 - 1) / 400) - 477 + msum (feb (70 + 1900)) 0 + 1 - 1) * 24 + 0) * 60 + 0) * 60 + 1) = 1 by decide]
  rintro x w6 ⟨rfl, hE6⟩
  dsimp only
  have hF6 : Ext w5 w6 := (OnS.alloc _ _).trans hE6
  have hT6 := hT5.to hF6 trivial
  have hR6 := hR5.mono (OnS.ext hF6)
  have hE6' := hE12345.trans hF6
  clear hcv hL5 hE6 hT5 hF6 hE12345 hR5
  have hcv := Lib.run_convert_bytes_const (P := Try.prog) w6 25 5 #[.int .u8 53, .int .u8 48, .int .u8 48, .int .u8 49, .int .u8 48, .int .u8 49, .int .u8 48, .int .u8 48, .int .u8 48, .int .u8 48, .int .u8 48, .int .u8 48, .int .u8 90] 13 13 Try.underlying25 Try.underlying5
  simp only [List.size_toArray, List.length_cons, List.length_nil, Nat.zero_add, Nat.reduceAdd] at hcv
  repeat' go_step
  have hL6 : SR (fun _ => True) (w6.alloc (.cells #[.int .u8 53, .int .u8 48, .int .u8 48, .int .u8 49, .int .u8 48, .int .u8 49, .int .u8 48, .int .u8 48, .int .u8 48, .int .u8 48, .int .u8 48, .int .u8 48, .int .u8 90] 5 (13, 14))) tU8 (some ⟨w6.heap.size, 0, none⟩) 13 13 (([5, 0, 0, 1, 0, 1, 0, 0, 0, 0, 0, 0] : List Int).map (48 + ·) ++ [90]) :=
    (show (([5, 0, 0, 1, 0, 1, 0, 0, 0, 0, 0, 0] : List Int).map (48 + ·) ++ [90]) = [53, 48, 48, 49, 48, 49, 48, 48, 48, 48, 48, 48, 90] by decide) ▸ SR.ofMark w6 (13, 14) [53, 48, 48, 49, 48, 49, 48, 48, 48, 48, 48, 48, 90] (by decide) 13 rfl (by decide)
  refine (time23_early _ hL6 (by decide) 50 1 1 0 0 0 rfl (by decide) (by decide)).mono ?_
  rintro x w7 ⟨⟨v, rfl⟩, hE7⟩
  dsimp only
  have hF7 : Ext w6 w7 := (OnS.alloc _ _).trans hE7
  have hT7 := hT6.to hF7 trivial
  have hR7 := hR6.mono (OnS.ext hF7)
  have hE7' := hE6'.trans hF7
  obtain ⟨a, g, f, -, -, -⟩ := hR7.idxI Try.underlying54 (by rw [show (Try.prog.info? 31).map (·.size) = some 1 by kernel_rfl]) .i64 2 2 rfl (by omega)
  simp only [List.getD_eq_getElem?_getD, List.getElem?_cons_zero, List.getElem?_cons_succ, Option.getD_some] at f
  have t0 := hT7.cell 0
  simp only [List.getElem?_cons_zero, List.getElem?_cons_succ] at t0
  clear hL6 hE7 hF7 hT6 hR6 hE6' hT7
  repeat' go_step
  go_ret
  exact ⟨rfl, hE7'⟩
end Go.Proofs.Ytikekdifipacmaa
