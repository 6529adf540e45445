/- A region that draws its order, each of whose operations comes to one value in every world of an invariant. Over any program. -/
import Derived.Test.YtolcjcdnkiabpaaK12
namespace Go.Proofs.Ytolcjcdnkiabpaa
open Go.RowKit

section
variable {P : Program} {ops : Array Oper} {Q : Exit → Act → World → Prop} {a : Act} {w0 : World}

theorem region_tab (hm : P.follows .mixedOrders = true) {id : Nat} (I : World → Prop) (tab : Nat → Value) (hok : invOk ops a.tmps.size = true) (h0 : I w0.drew)
    (hstep : ∀ i o w, ops[i]? = some o → I w → ∀ ρ : Operand → Value, (∀ x ∈ o.op.operands, ρ x = opV ops a tab i x) → RunsI P (execOp ρ o) w fun v w' => v = tab i ∧ I w')
    (hfin : ∀ w, I w → Q .normal (putL tab 0 ops.toList a) w) : (Code.region id ops true).wp P Q a w0 := by
  refine region_inv hm (fun D V w => I w ∧ ∀ j, D j = true → V j = tab j) hok (fun V => ⟨h0, fun j h => by cases h⟩) ?_ ?_
  · intro i o D V w ho hDi hdep ⟨hI, hV⟩ ρ hρ
    have hr := hstep i o w ho hI ρ (fun x hx => by
      rw [hρ x hx]
      cases x with
      | tmp t =>
        simp only [opV]
        split
        · rename_i j hj
          refine hV j ?_
          have hj1 := List.find?_some hj
          have hj2 := List.mem_of_find?_eq_some hj
          simp only [beq_iff_eq] at hj1
          have hji : j < i := List.mem_range.1 hj2
          have hil : i < ops.size := (Array.getElem?_eq_some_iff.1 ho).1
          obtain ⟨p, hpj⟩ : ∃ p, ops[j]? = some p := ⟨ops[j], Array.getElem?_eq_getElem (by omega)⟩
          rw [hpj] at hj1
          have hpd : p.dst = some t := hj1
          obtain ⟨o', ho', _, hedge⟩ := ((invOk_parts hok j p hpj).2.2 t hpd).2 i hil (by omega)
          rw [ho] at ho'
          cases ho'
          have hrd : readsTmp o t = true := by
            simp only [readsTmp, Array.any_eq_true']
            exact ⟨.tmp t, hx, by simp⟩
          rcases hedge hrd with he | he
          · obtain ⟨e, he1, he2, rfl⟩ := hasEdge_iff he
            exact hdep e he1 he2
          · obtain ⟨e, he1, he2, he3⟩ := hasEdge_iff he
            have := (invOk_parts hok j p hpj).1 e he1 he2
            omega
        · rfl
      | const v => rfl
      | global g => rfl
      | func f => rfl)
    unfold RunsI at hr ⊢
    cases hres : (execOp ρ o).run P w with
    | halt x w2 => rw [hres] at hr; exact hr
    | ok nx w2 =>
      rw [hres] at hr
      have conv : ∀ v w', (v = tab i ∧ I w') → I w' ∧ ∀ j, (if i = j then true else D j) = true → (if i = j then v else V j) = tab j := fun v w' h => ⟨h.2, fun j hj => by
        by_cases e : i = j
        · subst e; simp [h.1]
        · simp only [e, if_false] at hj ⊢; exact hV j hj⟩
      cases nx with
      | value v => exact conv v w2 hr
      | skip => exact conv _ w2 hr
      | enter g args => exact hr.mono fun e w3 ⟨v, he, h⟩ => ⟨v, he, conv v w3 h⟩
      | _ => exact hr
  · intro D V w hD ⟨hI, hV⟩
    have e : ∀ (l : List Oper) (i : Nat) (b : Act), i + l.length ≤ ops.size → putL V i l b = putL tab i l b := by
      intro l
      induction l with
      | nil => intro _ _ _; rfl
      | cons o l ih =>
        intro i b hl
        simp only [List.length_cons] at hl
        rw [putL, putL, hV i (hD i (by omega)), ih (i + 1) _ (by omega)]
    rw [e ops.toList 0 a (by simp)]
    exact hfin w hI
end
end Go.Proofs.Ytolcjcdnkiabpaa
