/- A region that draws its order, by one invariant over what has been done so far. Over any program. -/
import Derived.Test.YtolcjcdnkiabpaaK8
namespace Go.Proofs.Ytolcjcdnkiabpaa
open Go.RowKit

/-- What a run comes to: Ψ of its value and its world. -/
def RunsI (P : Program) (s : Sem Next) (w : World) (Ψ : Value → World → Prop) : Prop :=
  match s.run P w with
  | .ok (.value v) w' => Ψ v w'
  | .ok .skip w' => Ψ undef w'
  | .ok (.enter f args) w' => Calls P f args w' fun e w'' => ∃ v, e = .returned v ∧ Ψ v w''
  | _ => False

/-- No guard; each result in a place of its own; whoever reads a result waits for it; whoever writes what is read waits for the reader. -/
def invOk (ops : Array Oper) (n : Nat) : Bool :=
  (List.range ops.size).all fun i => match ops[i]? with
    | none => false
    | some o => o.after.all (fun e => !Region.binds .any e || e.on < i) && (match o.op with | .select .. => false | _ => true) && o.guard.isNone &&
        (match o.dst with
          | none => true
          | some d => decide (d < n) && (List.range ops.size).all fun j => j == i || (match ops[j]? with
            | none => false
            | some p => p.dst != some d && (!readsTmp p d || hasEdge p i || hasEdge o j)))

/-- What an operand holds, the results so far being V. -/
def opV (ops : Array Oper) (a : Act) (V : Nat → Value) (i : Nat) : Operand → Value
  | .tmp t => match writer ops i t with
    | some j => V j
    | none => a.eval (.tmp t)
  | x => a.eval x

/-- All results in their places. -/
def putL (V : Nat → Value) : Nat → List Oper → Act → Act
  | _, [], a => a
  | i, o :: l, a => putL V (i + 1) l (a.put o.dst (V i))

section
variable {P : Program} {ops : Array Oper} {Q : Exit → Act → World → Prop} {a : Act} {w0 : World}

theorem invOk_parts {n : Nat} (h : invOk ops n = true) : ∀ i o, ops[i]? = some o → (∀ e ∈ o.after, Region.binds .any e = true → e.on < i) ∧ o.guard = none ∧
    ∀ d, o.dst = some d → d < n ∧ ∀ j, j < ops.size → j ≠ i → ∃ p, ops[j]? = some p ∧ p.dst ≠ some d ∧ (readsTmp p d = true → hasEdge p i = true ∨ hasEdge o j = true) := by
  intro i o ho
  have hi : i < ops.size := (Array.getElem?_eq_some_iff.1 ho).1
  simp only [invOk, List.all_eq_true, List.mem_range] at h
  have h1 := h i hi
  rw [ho] at h1
  simp only [Bool.and_eq_true, Option.isNone_iff_eq_none] at h1
  obtain ⟨⟨⟨h2, _⟩, hg⟩, h3⟩ := h1
  refine ⟨fun e he hb => ?_, hg, fun d hd => ?_⟩
  · have := (Array.all_eq_true_iff_forall_mem.1 h2) e he
    simp [hb] at this
    exact this
  · rw [hd] at h3
    simp only [Bool.and_eq_true, decide_eq_true_eq, List.all_eq_true, List.mem_range] at h3
    refine ⟨h3.1, fun j hj hne => ?_⟩
    have h5 := h3.2 j hj
    cases hp : ops[j]? with
    | none => rw [hp] at h5; simp [hne] at h5
    | some p =>
      rw [hp] at h5
      simp only [Bool.or_eq_true, beq_iff_eq, hne, false_or, Bool.and_eq_true, bne_iff_ne, Bool.not_eq_true'] at h5
      exact ⟨p, rfl, h5.1, fun hr => by
        rcases h5.2 with (h | h) | h
        · rw [hr] at h; cases h
        · exact .inl h
        · exact .inr h⟩

structure VInv (ops : Array Oper) (Inv : (Nat → Bool) → (Nat → Value) → World → Prop) (a : Act) (listed : Array Bool) (V : Nat → Value) (a' : Act) (w' : World) : Prop where
  size : listed.size = ops.size
  down : ∀ j o, ops[j]? = some o → listed.getD j false = true → ∀ e ∈ o.after, Region.binds .any e = true → listed.getD e.on false = true
  defers : a'.defers = a.defers
  tsize : a'.tmps.size = a.tmps.size
  same : ∀ t, (∀ j o, listed.getD j false = true → ops[j]? = some o → o.dst ≠ some t) → a'.tmps[t]? = a.tmps[t]?
  done : ∀ j o d, listed.getD j false = true → ops[j]? = some o → o.dst = some d → a'.tmps.getD d undef = V j
  inv : Inv (fun j => listed.getD j false) V w'

theorem putL_defers (V : Nat → Value) : ∀ (l : List Oper) (i : Nat) (a : Act), (putL V i l a).defers = a.defers
  | [], _, _ => rfl
  | o :: l, i, a => by rw [putL, putL_defers V l]; cases o.dst <;> rfl
theorem putL_size (V : Nat → Value) : ∀ (l : List Oper) (i : Nat) (a : Act), (putL V i l a).tmps.size = a.tmps.size
  | [], _, _ => rfl
  | o :: l, i, a => by rw [putL, putL_size V l]; cases o.dst <;> simp [Act.put]
theorem putL_same (V : Nat → Value) (t : Tmp) : ∀ (l : List Oper) (i : Nat) (a : Act), (∀ o ∈ l, o.dst ≠ some t) → (putL V i l a).tmps[t]? = a.tmps[t]?
  | [], _, _, _ => rfl
  | o :: l, i, a, h => by
    rw [putL, putL_same V t l (i + 1) _ fun p hp => h p (List.mem_cons_of_mem _ hp)]
    have h1 := h o (List.mem_cons_self ..)
    cases hd : o.dst with
    | none => rfl
    | some d =>
      have : d ≠ t := fun e => h1 (by rw [hd, e])
      simp only [Act.put]
      rw [Array.getElem?_setIfInBounds_ne this]
theorem putL_done (V : Nat → Value) (t : Tmp) : ∀ (l : List Oper) (i : Nat) (a : Act) (j : Nat) (o : Oper), l[j]? = some o → o.dst = some t → t < a.tmps.size → (∀ k p, l[k]? = some p → k ≠ j → p.dst ≠ some t) →
    (putL V i l a).tmps[t]? = some (V (i + j))
  | [], _, _, _, _, h, _, _, _ => by simp at h
  | p :: l, i, a, 0, o, h, hd, ht, hu => by
    simp only [List.getElem?_cons_zero, Option.some.injEq] at h
    subst h
    rw [putL, putL_same V t l (i + 1) _ fun q hq => ?_]
    · simp only [hd, Act.put, Nat.add_zero]
      rw [Array.getElem?_setIfInBounds_self_of_lt ht]
    · obtain ⟨k, hk⟩ := List.mem_iff_getElem?.1 hq
      exact hu (k + 1) q (by simpa using hk) (by omega)
  | p :: l, i, a, j + 1, o, h, hd, ht, hu => by
    simp only [List.getElem?_cons_succ] at h
    rw [putL, putL_done V t l (i + 1) _ j o h hd (by cases p.dst <;> simpa [Act.put] using ht) fun k q hk hne => hu (k + 1) q (by simpa using hk) (by omega)]
    congr 2
    omega

theorem region_inv (hm : P.follows .mixedOrders = true) {id : Nat} (Inv : (Nat → Bool) → (Nat → Value) → World → Prop) (hok : invOk ops a.tmps.size = true)
    (h0 : ∀ V, Inv (fun _ => false) V w0.drew)
    (hstep : ∀ i o D V w, ops[i]? = some o → D i = false → (∀ e ∈ o.after, Region.binds .any e = true → D e.on = true) → Inv D V w → ∀ ρ : Operand → Value, (∀ x ∈ o.op.operands, ρ x = opV ops a V i x) →
      RunsI P (execOp ρ o) w fun v w' => Inv (fun j => if i = j then true else D j) (fun j => if i = j then v else V j) w')
    (hfin : ∀ D V w, (∀ j, j < ops.size → D j = true) → Inv D V w → Q .normal (putL V 0 ops.toList a) w) :
    (Code.region id ops true).wp P Q a w0 := by
  refine wp_region_any hm ?_
  have main : ∀ (f : Nat) (listed : Array Bool) (V : Nat → Value) (a' : Act) (w' : World), VInv ops Inv a listed V a' w' →
      (∃ c, c ≤ ops.size ∧ f = ops.size - c ∧ ((List.range ops.size).filter fun j => listed.getD j false).length = c) → wpAny P .any ops Q f listed a' w' := by
    intro f
    induction f with
    | zero =>
      intro listed V a' w' hI ⟨c, hck, hf, hc⟩
      have hall : ∀ j, j < ops.size → listed.getD j false = true := by
        intro j hj
        have h1 : ((List.range ops.size).filter fun j => listed.getD j false).length = (List.range ops.size).length := by rw [hc]; simp; omega
        exact List.length_filter_eq_length_iff.1 h1 j (List.mem_range.2 hj)
      have hready : Region.ready .any ops listed = [] := by
        refine List.eq_nil_iff_forall_not_mem.2 fun i hi => ?_
        obtain ⟨h1, o, ho, _⟩ := mem_ready.1 hi
        have hlt : i < ops.size := (Array.getElem?_eq_some_iff.1 ho).1
        rw [getD_tf _ _ (by rw [hI.size]; exact hlt), hall i hlt] at h1
        cases h1
      have hq := hfin _ V w' hall hI.inv
      have he : a' = putL V 0 ops.toList a := by
        have e1 : a'.defers = (putL V 0 ops.toList a).defers := by rw [putL_defers, hI.defers]
        have e2 : a'.tmps = (putL V 0 ops.toList a).tmps := by
          refine Array.ext_getElem? fun t => ?_
          by_cases hex : ∃ (j : Nat) (o : Oper), ops[j]? = some o ∧ o.dst = some t
          · obtain ⟨j, o, ho, hd⟩ := hex
            have hj : j < ops.size := (Array.getElem?_eq_some_iff.1 ho).1
            have hp := (invOk_parts hok j o ho).2.2 t hd
            have hv := hI.done j o t (hall j hj) ho hd
            have ht : t < a'.tmps.size := by rw [hI.tsize]; exact hp.1
            rw [putL_done V t ops.toList 0 a j o (by simpa using ho) hd hp.1 fun k p hk hne => ?_]
            · rw [Array.getElem?_eq_getElem ht, Nat.zero_add, ← hv, Array.getD_eq_getD_getElem?, Array.getElem?_eq_getElem ht]
              rfl
            · have hk' : ops[k]? = some p := by simpa using hk
              obtain ⟨p', hp', hne', _⟩ := hp.2 k (Array.getElem?_eq_some_iff.1 hk').1 hne
              rw [hk'] at hp'
              cases hp'
              exact hne'
          · have hno : ∀ (j : Nat) (o : Oper), ops[j]? = some o → o.dst ≠ some t := fun j o ho hd => hex ⟨j, o, ho, hd⟩
            rw [hI.same t fun j o _ ho => hno j o ho, putL_same V t ops.toList 0 a fun o ho => ?_]
            obtain ⟨j, hj⟩ := List.mem_iff_getElem?.1 ho
            exact hno j o (by simpa using hj)
        cases a' with
        | mk tm df =>
          simp only at e1 e2
          rw [e1, e2]
      rw [← he] at hq
      exact ⟨hready, hq⟩
    | succ f ih =>
      intro listed V a' w' hI ⟨c, hck, hf, hc⟩
      have hnot : ∃ j, j < ops.size ∧ listed.getD j false = false := by
        refine Classical.byContradiction fun hno => ?_
        have : ((List.range ops.size).filter fun j => listed.getD j false).length = ops.size := by
          rw [List.filter_eq_self.2, List.length_range]
          intro j hj
          cases hq : listed.getD j false with
          | true => rfl
          | false => exact absurd ⟨j, List.mem_range.1 hj, hq⟩ hno
        omega
      have hready : ∃ i, i ∈ Region.ready .any ops listed := by
        obtain ⟨j, hj⟩ := hnot
        obtain ⟨i, ⟨hi1, hi2⟩, hi3⟩ := least (p := fun i => i < ops.size ∧ listed.getD i false = false) j hj
        refine ⟨i, mem_ready.2 ⟨?_, ops[i], Array.getElem?_eq_getElem hi1, fun e he hb => ?_⟩⟩
        · rw [getD_tf _ _ (by rw [hI.size]; exact hi1)]
          exact hi2
        · have h1 := (invOk_parts hok i _ (Array.getElem?_eq_getElem hi1)).1 e he hb
          cases hq : listed.getD e.on false with
          | true => rfl
          | false => exact absurd ⟨by omega, hq⟩ (hi3 e.on h1)
      refine ⟨fun h0 => (by obtain ⟨i, hi⟩ := hready; rw [h0] at hi; cases hi), fun i hi => ?_⟩
      obtain ⟨h1, o, ho, h2⟩ := mem_ready.1 hi
      have hilt : i < ops.size := (Array.getElem?_eq_some_iff.1 ho).1
      have hib : i < listed.size := by rw [hI.size]; exact hilt
      have hif : listed.getD i false = false := by
        rw [getD_tf _ _ hib] at h1
        exact h1
      obtain ⟨hp1, hg, hd⟩ := invOk_parts hok i o ho
      have hrun := hstep i o (fun j => listed.getD j false) V w' ho hif h2 hI.inv a'.eval (by
        intro x hx
        cases x with
        | tmp t =>
          have hrd : readsTmp o t = true := by
            simp only [readsTmp, Array.any_eq_true']
            exact ⟨.tmp t, hx, by simp⟩
          simp only [opV]
          split
          · rename_i j hj
            have hj1 := List.find?_some hj
            have hj2 := List.mem_of_find?_eq_some hj
            simp only [beq_iff_eq] at hj1
            have hji : j < i := List.mem_range.1 hj2
            obtain ⟨p, hpj⟩ : ∃ p, ops[j]? = some p := ⟨ops[j], Array.getElem?_eq_getElem (by omega)⟩
            rw [hpj] at hj1
            have hpd : p.dst = some t := hj1
            obtain ⟨o', ho', _, hedge⟩ := ((invOk_parts hok j p hpj).2.2 t hpd).2 i hilt (by omega)
            rw [ho] at ho'
            cases ho'
            have hl : listed.getD j false = true := by
              rcases hedge hrd with he | he
              · obtain ⟨e, he1, he2, rfl⟩ := hasEdge_iff he
                exact h2 e he1 he2
              · obtain ⟨e, he1, he2, he3⟩ := hasEdge_iff he
                have := (invOk_parts hok j p hpj).1 e he1 he2
                omega
            have := hI.done j p t hl hpj hpd
            simpa [Act.eval] using this
          · rename_i hno
            have hsame := hI.same t (fun j p hl hpj hpd => by
              have hjs : j < ops.size := (Array.getElem?_eq_some_iff.1 hpj).1
              rcases Nat.lt_trichotomy j i with h3 | h3 | h3
              · have := List.find?_eq_none.1 hno j (List.mem_range.2 h3)
                simp [hpj, hpd] at this
              · subst h3; rw [hif] at hl; cases hl
              · obtain ⟨o', ho', _, hedge⟩ := ((invOk_parts hok j p hpj).2.2 t hpd).2 i hilt (by omega)
                rw [ho] at ho'
                cases ho'
                rcases hedge hrd with he | he
                · obtain ⟨e, he1, he2, he3⟩ := hasEdge_iff he
                  have := hp1 e he1 he2
                  omega
                · obtain ⟨e, he1, he2, rfl⟩ := hasEdge_iff he
                  have := hI.down j p hpj hl e he1 he2
                  rw [hif] at this
                  cases this)
            simp [Act.eval, hsame]
        | const v => simp [opV, Act.eval]
        | global g => simp [opV, Act.eval]
        | func f => simp [opV, Act.eval])
      have next : ∀ v w'', Inv (fun j => if i = j then true else listed.getD j false) (fun j => if i = j then v else V j) w'' → wpAny P .any ops Q f (listed.setIfInBounds i true) (a'.put o.dst v) w'' := by
        intro v w'' hv
        have hD : (fun j => if i = j then true else listed.getD j false) = fun j => (listed.setIfInBounds i true).getD j false := by
          funext j
          rw [getD_set _ _ _ _ hib]
        rw [hD] at hv
        refine ih _ _ _ _ ⟨by simpa using hI.size, ?_, ?_, ?_, ?_, ?_, hv⟩ ⟨c + 1, by omega, by omega, ?_⟩
        · intro j p hpj hl e he hb
          rw [getD_set _ _ _ _ hib] at hl ⊢
          split
          · rfl
          · split at hl
            · rename_i e1; subst e1; rw [ho] at hpj; cases hpj; exact h2 e he hb
            · exact hI.down j p hpj hl e he hb
        · cases hdd : o.dst <;> simp [Act.put, hI.defers]
        · cases hdd : o.dst <;> simp [Act.put, hI.tsize]
        · intro t ht
          have h3 := hI.same t (fun j p hl hpj => ht j p (by
            rw [getD_set _ _ _ _ hib]
            split
            · rfl
            · exact hl) hpj)
          have h4 := ht i o (by rw [getD_set _ _ _ _ hib]; simp) ho
          cases hdd : o.dst with
          | none => simpa [Act.put] using h3
          | some d =>
            have hne : d ≠ t := fun e => h4 (by rw [hdd, e])
            simp only [Act.put]
            rw [Array.getElem?_setIfInBounds_ne hne]
            exact h3
        · intro j p d hl hpj hpd
          rw [getD_set _ _ _ _ hib] at hl
          by_cases hji : i = j
          · subst hji
            rw [ho] at hpj
            cases hpj
            have hdl := (hd d hpd).1
            simp only [hpd, Act.put, Array.getD_eq_getD_getElem?]
            rw [Array.getElem?_setIfInBounds_self_of_lt (by rw [hI.tsize]; exact hdl)]
            simp
          · rw [if_neg hji] at hl
            have h3 := hI.done j p d hl hpj hpd
            cases hdd : o.dst with
            | none => simpa [Act.put, hji] using h3
            | some d' =>
              have hne : d' ≠ d := by
                intro e
                subst e
                obtain ⟨p', hp', hx, _⟩ := (hd d' hdd).2 j (Array.getElem?_eq_some_iff.1 hpj).1 (Ne.symm hji)
                rw [hpj] at hp'
                cases hp'
                exact hx hpd
              simp only [Act.put, Array.getD_eq_getD_getElem?] at h3 ⊢
              rw [Array.getElem?_setIfInBounds_ne hne, if_neg hji]
              exact h3
        · rw [← hc]
          exact count_set listed i hib hif _ (List.mem_range.2 hilt) List.nodup_range
      unfold wpOp
      rw [ho]
      simp only
      rw [if_pos (by simp [Region.wanted, hg])]
      refine .inl ?_
      unfold Oper.wp
      unfold RunsI at hrun
      cases hres : (execOp a'.eval o).run P w' with
      | halt x w2 => rw [hres] at hrun; exact hrun.elim
      | ok nx w2 =>
        rw [hres] at hrun
        cases nx with
        | value v => exact next v w2 hrun
        | skip => exact next undef w2 hrun
        | enter g args => exact hrun.mono fun e w3 ⟨v, he, hv⟩ => by subst he; exact next v w3 hv
        | _ => exact hrun.elim
  refine main ops.size _ (fun _ => undef) a _ ⟨by simp, fun j o ho hl => ?_, rfl, rfl, fun _ _ => rfl, fun j o d hl ho => ?_, ?_⟩ ⟨0, by omega, by omega, ?_⟩
  · have : j < ops.size := (Array.getElem?_eq_some_iff.1 ho).1
    simp [Array.getD, this] at hl
  · have : j < ops.size := (Array.getElem?_eq_some_iff.1 ho).1
    simp [Array.getD, this] at hl
  · have e : (fun j => (Array.replicate ops.size false).getD j false) = fun _ => false := by
      funext j
      by_cases hj : j < ops.size <;> simp [Array.getD, hj]
    rw [e]
    exact h0 _
  · rw [List.length_eq_zero_iff, List.filter_eq_nil_iff]
    intro j hj
    have : j < ops.size := by have := List.mem_range.1 hj; omega
    simp [Array.getD, this]
end
end Go.Proofs.Ytolcjcdnkiabpaa
