/-
  Proved: 'latchkeylaw10.DerJoins' returns true for every input and changes nothing of it: pieces written one behind the other are the list, and within a sequence they are its pieces.
  Conditions: none beyond the row's own.
-/
import Derived.Test.YtikekdifipacmaaRows
import Derived.Test.YtikekdifipacmaaD29
import Derived.Test.YtikekdifipacmaaK13
import Derived.WalkKit
import Derived.ProofKit
import Derived.OpenShut
import Derived.ChangeOld
import Derived.Below
import Derived.SizedLaws
namespace Go.Proofs.Ytikekdifipacmaa.derJoins
open Go.ChangeShapes Go.WideShapes Go.ChangeAt Go.RowKit
set_option linter.unusedVariables false

theorem own : ownKnob Try.prog.godebug = none := by kernel_rfl
theorem laidOut : laidOutB Try.prog = true := by kernel_rfl
theorem cells5 : Try.prog.cellsOf 5 = 1 := by kernel_rfl
theorem cells25 : Try.prog.cellsOf 25 = 1 := by kernel_rfl

theorem opens_tlv {H : Type} (enc : TypeId × Value → H) (W : World) : Opens enc Try.prog W 28 tTlv (fun x => 0 ≤ x.1 ∧ x.1 ≤ 255) :=
  ⟨by kernel_rfl, by kernel_rfl, fun fuel cs x h hw => by
    obtain ⟨xs, m, _, rfl, hl, hn, hf⟩ := DataW.trod_struct Try.underlying28 h
    have f0 : DataW.trod enc Try.prog W 0 (fun _ => true) true m 5 ((cs.drop 0).take (Try.prog.cellsOf 5)) = xs[0]? := hf 0 _ rfl
    have f1 : DataW.trod enc Try.prog W 0 (fun _ => true) true m 25 ((cs.drop 1).take (Try.prog.cellsOf 25)) = xs[1]? := hf 1 _ rfl
    simp only [cells5, cells25, List.drop_zero] at f0 f1
    have hn2 : xs.length = 2 := hn
    have hl2 : cs.length = 2 := hl
    match xs, hn2, cs, hl2 with
    | [x0, x1], _, [c0, c1], _ =>
      simp only [List.getElem?_cons_zero, List.getElem?_cons_succ, List.take_succ_cons, List.take_zero, List.drop_succ_cons, List.drop_zero] at f0 f1
      obtain ⟨t, e0, _, ht⟩ := DataW.trod_int Try.underlying5 f0
      have hb := opens_int (enc := enc) (P := Try.prog) (W := W) (b := 1) Try.underlying5 (by kernel_rfl) (by kernel_rfl)
      obtain ⟨A, n, c, l, e1, hR, _⟩ := opens_slice Try.underlying25 hb (by decide) (by decide) f1 (fun k hk => hw k (by
        simp only [DataW.weights, Try.underlying28]
        simp [DataW.weightsEach, hk]))
      cases e0
      cases e1
      have htr : 0 ≤ t ∧ t ≤ 255 := by simpa [Lit.wf, IntKind.min, IntKind.max, IntKind.signed, IntKind.bits] using ht
      exact ⟨(t, l), ⟨A, n, c, rfl, hR⟩, htr⟩⟩

set_option maxRecDepth 100000 in
theorem lifted (os : Os) (started : os.Started) (H : Type) (enc : TypeId × Value → H) :
    ReturnsInHanded {} Try.checked os 6 .any (Rows.derJoinsSpec.pre6 enc Try.prog Try.f6 Rows.derJoinsRow.domain false) (Rows.derJoinsSpec.post enc Try.prog Try.f6 false true false false) := by
  refine returnsInHanded_of_change_sized (C := Try.checked) own started (by kernel_rfl) Try.func6
    (ChangeSpec.witness6 (enc := enc) (C := Try.checked) false ⟨#[], #[.slice none 0 0], []⟩ 8 (by kernel_rfl) (by kernel_rfl) (by kernel_rfl) (by kernel_rfl)) ?_
  intro W base args ds gs before hval0 hW hcnd hsz0 _
  have hval : ∀ (j : Nat) t v, Try.f6.params[j]? = some t → args[j]? = some v → Value.okWide Try.prog W .any base t v := hval0
  have hsz : (DataW.weightsEach Try.prog (Try.f6.params.toList ++ Rows.derJoinsSpec.plain.varTypes Try.prog) (ds ++ gs)).all (· ≤ reachBytes) = true := hsz0
  clear hsz0
  have hW' := hW
  obtain ⟨p, q, hA0, hV, rfl, hfz, hnd⟩ := hW
  have hA : DataW.TrodAll enc Try.prog W 0 (fun _ => true) true Try.f6.params.toList args.toList ds p := hA0
  rw [Try.params6] at hA hval hsz
  obtain ⟨v0, vs0, d0, ds0, p0, q0, hargs, rfl, rfl, h0, r0⟩ := trodAll_cons hA
  obtain ⟨rfl, rfl, rfl⟩ := trodAll_nil r0
  obtain rfl : args = #[v0] := by cases args; simp_all
  obtain ⟨rfl, rfl⟩ := trodVars_none hV
  obtain ⟨a0, len0, cap0, rfl⟩ := okWide_slice Try.underlying36 (hval 0 36 v0 rfl rfl)
  have k0 := h0
  have lt0 : ∀ x ∈ p0, x.block < W.heap.size := by obtain ⟨m, hm⟩ := k0; exact DataW.trod_lt m _ _ _ hm
  have hread : ∃ l, SR (fun _ => True) W tTlv a0 len0 cap0 l ∧ ∀ x ∈ l, 0 ≤ x.1 ∧ x.1 ≤ 255 := by
    obtain ⟨fuel, hf⟩ := h0
    obtain ⟨A, n, c, l, e, hR, hG⟩ := opens_slice Try.underlying36 (opens_tlv enc W) (by decide) (by decide) hf (fun k hk => of_decide_eq_true (List.all_eq_true.1 hsz k (DataW.weights_mem_each (j := 0) rfl rfl k hk)))
    simp [Value.cells] at e
    obtain ⟨rfl, rfl, rfl⟩ := e
    exact ⟨l, hR, hG⟩
  obtain ⟨l, hR, hG⟩ := hread
  clear hA0 hval0
  refine (joins_any W hR hG).mono fun e W' ⟨he, ext⟩ => ?_
  have bel := OnS.below ext
  subst he
  exact ⟨_, rfl, _, _, _, [], _, [], hW', trodAll_mk1 (shut_bool Try.underlying4 _), (trodAll_cons_mk (Below.trod laidOut (by kernel_rfl) (of_decide_eq_true (by kernel_rfl)) k0 bel lt0) trodAll_mk0), rfl, bel.frame _, fun h => by cases h⟩

theorem over : Rows.derJoinsRow.holds Try.pinned (OpenSpec.ofChange Rows.derJoinsSpec) :=
  OpenClaim.holds_of_wide 6 Try.f6 rfl rfl rfl rfl rfl rfl rfl ⟨rfl, rfl, rfl, rfl, rfl⟩ rfl rfl rfl rfl rfl (by kernel_rfl) Try.func6 (by kernel_rfl)
    (of_decide_eq_true (by kernel_rfl)) (by unfold Func.isWrapper; first | (rw [if_pos (by decide +kernel)]; kernel_rfl) | (rw [if_neg (by decide +kernel)]; exact ⟨rfl, rfl⟩))
    (fun os started H enc _ => lifted os started H enc)

/-- ████ THE STATEMENT ████ -/
theorem proved : Rows.DerJoinsSaid := over
#print axioms proved
end Go.Proofs.Ytikekdifipacmaa.derJoins
