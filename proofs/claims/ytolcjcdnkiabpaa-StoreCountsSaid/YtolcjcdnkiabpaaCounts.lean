/-
  Proved: 'latchkeylaw21.StoreCounts' returns true for every input and changes nothing of it: a credential's count is the greatest that was marked, its flag whether any was.
  Conditions: none beyond the row's own.
-/
import Derived.Test.YtolcjcdnkiabpaaRows
import Derived.Test.YtolcjcdnkiabpaaS8
import Derived.Test.YtolcjcdnkiabpaaK13
import Derived.WalkKit
import Derived.ProofKit
import Derived.OpenShut
import Derived.ChangeOld
import Derived.Below
import Derived.SizedLaws
namespace Go.Proofs.Ytolcjcdnkiabpaa.storeCounts
open Go.ChangeShapes Go.WideShapes Go.ChangeAt Go.RowKit
set_option linter.unusedVariables false

theorem own : ownKnob Try.prog.godebug = none := by kernel_rfl
theorem laidOut : laidOutB Try.prog = true := by kernel_rfl

theorem opens_bool {H : Type} (enc : TypeId × Value → H) (W : World) : Opens enc Try.prog W 4 tBool (fun _ => True) :=
  ⟨by kernel_rfl, by kernel_rfl, fun fuel cs x h _ => by
    obtain ⟨b, rfl, _⟩ := DataW.trod_bool Try.underlying4 h
    exact ⟨b, rfl, trivial⟩⟩

set_option maxRecDepth 100000 in
theorem lifted (os : Os) (started : os.Started) (H : Type) (enc : TypeId × Value → H) :
    ReturnsInHanded {} Try.checked os 3 .any (Rows.storeCountsSpec.pre6 enc Try.prog Try.f3 Rows.storeCountsRow.domain false) (Rows.storeCountsSpec.post enc Try.prog Try.f3 false true false false) := by
  refine returnsInHanded_of_change_sized (C := Try.checked) own started (by kernel_rfl) Try.func3
    (ChangeSpec.witness6 (enc := enc) (C := Try.checked) false ⟨#[], #[.int .u32 0, .slice none 0 0, .slice none 0 0], []⟩ 8 (by kernel_rfl) (by kernel_rfl) (by kernel_rfl) (by kernel_rfl)) ?_
  intro W base args ds gs before hval0 hW hcnd hsz0 _
  have hval : ∀ (j : Nat) t v, Try.f3.params[j]? = some t → args[j]? = some v → Value.okWide Try.prog W .any base t v := hval0
  have hsz : (DataW.weightsEach Try.prog (Try.f3.params.toList ++ Rows.storeCountsSpec.plain.varTypes Try.prog) (ds ++ gs)).all (· ≤ reachBytes) = true := hsz0
  clear hsz0
  have hW' := hW
  obtain ⟨p, q, hA0, hV, rfl, hfz, hnd⟩ := hW
  have hA : DataW.TrodAll enc Try.prog W 0 (fun _ => true) true Try.f3.params.toList args.toList ds p := hA0
  rw [Try.params3] at hA hval hsz
  obtain ⟨v0, vs0, d0, ds0, p0, q0, hargs, rfl, rfl, h0, r0⟩ := trodAll_cons hA
  obtain ⟨v1, vs1, d1, ds1, p1, q1, rfl, rfl, rfl, h1, r1⟩ := trodAll_cons r0
  obtain ⟨v2, vs2, d2, ds2, p2, q2, rfl, rfl, rfl, h2, r2⟩ := trodAll_cons r1
  obtain ⟨rfl, rfl, rfl⟩ := trodAll_nil r2
  obtain rfl : args = #[v0, v1, v2] := by cases args; simp_all
  obtain ⟨rfl, rfl⟩ := trodVars_none hV
  obtain ⟨a1, len1, cap1, rfl⟩ := okWide_slice Try.underlying23 (hval 1 23 v1 rfl rfl)
  obtain ⟨a2, len2, cap2, rfl⟩ := okWide_slice Try.underlying24 (hval 2 24 v2 rfl rfl)
  have k0 := h0
  have k1 := h1
  have k2 := h2
  have lt0 : ∀ x ∈ p0, x.block < W.heap.size := by obtain ⟨m, hm⟩ := k0; exact DataW.trod_lt m _ _ _ hm
  have lt1 : ∀ x ∈ p1, x.block < W.heap.size := by obtain ⟨m, hm⟩ := k1; exact DataW.trod_lt m _ _ _ hm
  have lt2 : ∀ x ∈ p2, x.block < W.heap.size := by obtain ⟨m, hm⟩ := k2; exact DataW.trod_lt m _ _ _ hm
  have hread1 : ∃ l, SR (fun _ => True) W tU32 a1 len1 cap1 l := by
    obtain ⟨fuel, hf⟩ := h1
    have hb := opens_int (enc := enc) (P := Try.prog) (W := W) (b := 4) Try.underlying22 (by kernel_rfl) (by kernel_rfl)
    obtain ⟨A, n, c, l, e, hR, hG⟩ := opens_slice Try.underlying23 hb (by decide) (by decide) hf (fun k hk => of_decide_eq_true (List.all_eq_true.1 hsz k (DataW.weights_mem_each (j := 1) rfl rfl k hk)))
    simp [Value.cells] at e
    obtain ⟨rfl, rfl, rfl⟩ := e
    exact ⟨l, hR⟩
  have hread2 : ∃ l, SR (fun _ => True) W tBool a2 len2 cap2 l := by
    obtain ⟨fuel, hf⟩ := h2
    obtain ⟨A, n, c, l, e, hR, hG⟩ := opens_slice Try.underlying24 (opens_bool enc W) (by decide) (by decide) hf (fun k hk => of_decide_eq_true (List.all_eq_true.1 hsz k (DataW.weights_mem_each (j := 2) rfl rfl k hk)))
    simp [Value.cells] at e
    obtain ⟨rfl, rfl, rfl⟩ := e
    exact ⟨l, hR⟩
  have hread0 : ∃ a, v0 = .int .u32 a ∧ 0 ≤ a ∧ a ≤ 4294967295 := by
    obtain ⟨a, e, _, _, wa⟩ := open_int Try.underlying22 (hval 0 22 v0 rfl rfl) h0
    exact ⟨a, e, by simpa [Lit.wf, IntKind.min, IntKind.max, IntKind.signed, IntKind.bits] using wa⟩
  obtain ⟨l1, hR1⟩ := hread1
  obtain ⟨l2, hR2⟩ := hread2
  obtain ⟨a, rfl, ha0, ha1⟩ := hread0
  clear hA0 hval0
  refine (counts_any W ha0 ha1 hR1 hR2).mono fun e W' ⟨he, ext⟩ => ?_
  have bel := OnS.below ext
  subst he
  exact ⟨_, rfl, _, _, _, [], _, [], hW', trodAll_mk1 (shut_bool Try.underlying4 _), (trodAll_cons_mk (Below.trod laidOut (by kernel_rfl) (of_decide_eq_true (by kernel_rfl)) k0 bel lt0) (trodAll_cons_mk (Below.trod laidOut (by kernel_rfl) (of_decide_eq_true (by kernel_rfl)) k1 bel lt1) (trodAll_cons_mk (Below.trod laidOut (by kernel_rfl) (of_decide_eq_true (by kernel_rfl)) k2 bel lt2) trodAll_mk0))), rfl, bel.frame _, fun h => by cases h⟩

theorem over : Rows.storeCountsRow.holds Try.pinned (OpenSpec.ofChange Rows.storeCountsSpec) :=
  OpenClaim.holds_of_wide 3 Try.f3 rfl rfl rfl rfl rfl rfl rfl ⟨rfl, rfl, rfl, rfl, rfl⟩ rfl rfl rfl rfl rfl (by kernel_rfl) Try.func3 (by kernel_rfl)
    (of_decide_eq_true (by kernel_rfl)) (by unfold Func.isWrapper; first | (rw [if_pos (by decide +kernel)]; kernel_rfl) | (rw [if_neg (by decide +kernel)]; exact ⟨rfl, rfl⟩))
    (fun os started H enc _ => lifted os started H enc)

/-- ████ THE STATEMENT ████ -/
theorem proved : Rows.StoreCountsSaid := over
#print axioms proved
end Go.Proofs.Ytolcjcdnkiabpaa.storeCounts
