/- A region that draws its order, operation by operation in the text's order. Over any program. -/
import Derived.Test.YtikekdifipacmaaK4
namespace Go.Proofs.Ytikekdifipacmaa
open Go.RowKit

abbrev Spec := Value → World → Prop

def lk : List (Tmp × Spec) → Tmp → Option Spec
  | [], _ => none
  | (d, Ψ) :: env, t => if t = d then some Ψ else lk env t
theorem lk_eq (env : List (Tmp × Spec)) (t : Tmp) : lk env t = env.lookup t := by
  induction env with
  | nil => rfl
  | cons x env ih =>
    obtain ⟨d, Ψ⟩ := x
    rw [List.lookup_cons, lk, ih]
    by_cases h : t = d
    · simp [h]
    · rw [show (t == d) = false by simpa using h]
      simp [h]
/-- What is told of an operand: by the operation that made it, or it is as it was. -/
def toldE (env : List (Tmp × Spec)) (a : Act) (w : World) (v : Value) : Operand → Prop
  | .tmp t => match lk env t with
    | some Ψ => Ψ v w
    | none => v = a.eval (.tmp t)
  | x => v = a.eval x

/-- The operations one by one; env: what is told of the results so far. -/
def MS (P : Program) (a : Act) (w0 : World) : List Oper → List (Tmp × Spec) → (List (Tmp × Spec) → Prop) → Prop
  | [], env, F => F env
  | o :: rest, env, F => ∃ d Ψ, o.dst = some d ∧ (∀ v w w', Ext w w' → Ψ v w → Ψ v w') ∧
      (∀ ρ w, Ext w0 w → (∀ x ∈ o.op.operands, toldE env a w (ρ x) x) → RunsTo P (execOp ρ o) w Ψ) ∧ MS P a w0 rest ((d, Ψ) :: env) F

/-- The frame behind them: each result's place holds something of which its word is told. -/
def FinE (w : World) : List (Tmp × Spec) → (Act → Prop) → Act → Prop
  | [], K, a => K a
  | (d, Ψ) :: env, K, a => FinE w env (fun b => ∀ v, Ψ v w → K (b.put (some d) v)) a

section
variable {P : Program} {a : Act} {w0 : World}

theorem MS.specs {F : List (Tmp × Spec) → Prop} : ∀ (l : List Oper) (env : List (Tmp × Spec)), MS P a w0 l env F →
    ∃ Ψs : List (Tmp × Spec), Ψs.length = l.length ∧ F (Ψs.reverse ++ env) ∧ ∀ i o, l[i]? = some o → ∃ d Ψ, Ψs[i]? = some (d, Ψ) ∧ o.dst = some d ∧ (∀ v w w', Ext w w' → Ψ v w → Ψ v w') ∧
      (∀ ρ w, Ext w0 w → (∀ x ∈ o.op.operands, toldE ((Ψs.take i).reverse ++ env) a w (ρ x) x) → RunsTo P (execOp ρ o) w Ψ) := by
  intro l
  induction l with
  | nil => intro env h; exact ⟨[], rfl, h, fun i o ho => by simp at ho⟩
  | cons o l ih =>
    intro env ⟨d, Ψ, h1, h2, h3, h4⟩
    obtain ⟨Ψs, h5, h6, h7⟩ := ih _ h4
    refine ⟨(d, Ψ) :: Ψs, by simp [h5], by simpa using h6, fun i p hp => ?_⟩
    cases i with
    | zero =>
      simp only [List.getElem?_cons_zero, Option.some.injEq] at hp
      subst hp
      exact ⟨d, Ψ, rfl, h1, h2, by simpa using h3⟩
    | succ i =>
      simp only [List.getElem?_cons_succ] at hp
      obtain ⟨d', Ψ', g1, g2, g3, g4⟩ := h7 i p hp
      exact ⟨d', Ψ', by simpa using g1, g2, g3, by simpa using g4⟩

theorem lookup_reverse (Ψs : List (Tmp × Spec)) : ∀ i, i ≤ Ψs.length → ∀ t, (∀ j k, j < Ψs.length → k < Ψs.length → (Ψs[j]?).map (·.1) = some t → (Ψs[k]?).map (·.1) = some t → j = k) →
    (Ψs.take i).reverse.lookup t = ((List.range i).find? fun j => (Ψs[j]?).map (·.1) == some t).bind fun j => (Ψs[j]?).map (·.2) := by
  intro i
  induction i with
  | zero => intro _ t _; simp
  | succ i ih =>
    intro hi t hd
    have ih' := ih (by omega) t hd
    have hlt : i < Ψs.length := by omega
    obtain ⟨d, Ψ, hx⟩ : ∃ d Ψ, Ψs[i]? = some (d, Ψ) := ⟨Ψs[i].1, Ψs[i].2, by rw [List.getElem?_eq_getElem hlt]⟩
    have ht : Ψs.take (i + 1) = Ψs.take i ++ [(d, Ψ)] := by rw [List.take_add_one, hx]; rfl
    rw [ht, List.reverse_append, List.reverse_singleton, List.singleton_append, List.lookup_cons, List.range_succ, List.find?_append]
    by_cases hdt : t = d
    · subst hdt
      have hno : (List.range i).find? (fun j => (Ψs[j]?).map (·.1) == some t) = none := by
        rw [List.find?_eq_none]
        intro j hj hb
        have hj := List.mem_range.1 hj
        have := hd j i (by omega) hlt (by simpa using hb) (by simp [hx])
        omega
      simp [hno, hx]
    · rw [show (t == d) = false by simpa using hdt]
      simp only [ih']
      cases hf : (List.range i).find? (fun j => (Ψs[j]?).map (·.1) == some t) with
      | some j => simp
      | none =>
        have : ¬ d = t := fun e => hdt e.symm
        simp [hx, this]

theorem FinE.use {w : World} : ∀ (env : List (Tmp × Spec)) (K : Act → Prop) (b : Act), FinE w env K b → ∀ a' : Act, a'.defers = b.defers → a'.tmps.size = b.tmps.size → (env.map (·.1)).Nodup →
    (∀ t, t ∉ env.map (·.1) → a'.tmps[t]? = b.tmps[t]?) → (∀ d Ψ, (d, Ψ) ∈ env → d < b.tmps.size ∧ Ψ (a'.tmps.getD d undef) w) → K a' := by
  intro env
  induction env with
  | nil =>
    intro K b h a' h1 h2 _ h3 _
    have : a' = b := by
      cases a'; cases b
      simp only at h1 h2 h3
      subst h1
      congr 1
      exact Array.ext_getElem? fun t => h3 t (by simp)
    subst this
    exact h
  | cons x env ih =>
    obtain ⟨d, Ψ⟩ := x
    intro K b h a' h1 h2 hn h3 h4
    simp only [List.map_cons, List.nodup_cons] at hn
    -- the same frame, but for d, where it is as b has it
    obtain ⟨hdb, hΨ⟩ := h4 d Ψ (List.mem_cons_self ..)
    have key := ih _ b h { a' with tmps := a'.tmps.setIfInBounds d (b.tmps.getD d undef) } h1 (by simpa using h2) hn.2 (fun t ht => ?_) (fun d' Ψ' hm => ?_)
    · have h5 := key _ hΨ
      have : ({ a' with tmps := a'.tmps.setIfInBounds d (b.tmps.getD d undef) } : Act).put (some d) (a'.tmps.getD d undef) = a' := by
        cases a' with
        | mk tmps defers =>
          simp only [Act.put]
          congr 1
          refine Array.ext_getElem? fun t => ?_
          simp only at h2
          by_cases htd : d = t
          · subst htd
            have hlt : d < tmps.size := by rw [h2]; exact hdb
            rw [Array.getElem?_setIfInBounds_self_of_lt (by simpa using hlt)]
            rw [Array.getD_eq_getD_getElem?, Array.getElem?_eq_getElem hlt]
            rfl
          · rw [Array.getElem?_setIfInBounds_ne htd, Array.getElem?_setIfInBounds_ne htd]
      rwa [this] at h5
    · by_cases htd : d = t
      · subst htd
        simp only
        rw [Array.getElem?_setIfInBounds_self_of_lt (by rw [h2]; exact hdb)]
        simp [Array.getD_eq_getD_getElem?, Array.getElem?_eq_getElem hdb]
      · simp only
        rw [Array.getElem?_setIfInBounds_ne htd]
        exact h3 t (by simp only [List.map_cons, List.mem_cons, not_or]; exact ⟨fun e => htd e.symm, ht⟩)
    · obtain ⟨h6, h7⟩ := h4 d' Ψ' (List.mem_cons_of_mem _ hm)
      have hne : d ≠ d' := fun e => hn.1 (e ▸ List.mem_map_of_mem (f := (·.1)) hm)
      refine ⟨h6, ?_⟩
      simpa [Array.getD_eq_getD_getElem?, Array.getElem?_setIfInBounds_ne hne] using h7

/-- A region that draws its order: the first k operations one by one, then the others as they stand. -/
theorem region_ms {ops : Array Oper} {Q : Exit → Act → World → Prop} {id : Nat} (hm : P.follows .mixedOrders = true) (k : Nat) (hok : monoOk ops k a.tmps.size = true) (hk : k ≤ ops.size)
    (h : MS P a w0 (ops.toList.take k) [] fun env => ∀ w, Ext w0 w → FinE w env (fun b => wpList P ops Q (ops.toList.drop k) b w) a) : (Code.region id ops true).wp P Q a w0 := by
  obtain ⟨Ψs, hlen, hF, hsp⟩ := MS.specs _ _ h
  simp only [List.append_nil] at hF hsp
  have hlen' : Ψs.length = k := by rw [hlen]; simp; omega
  have hget : ∀ i o, i < k → ops[i]? = some o → (ops.toList.take k)[i]? = some o := by
    intro i o hi ho
    rw [List.getElem?_take, if_pos hi]
    simpa using ho
  -- each result has a place of its own
  have hdst : ∀ i o, i < k → ops[i]? = some o → ∃ d Ψ, Ψs[i]? = some (d, Ψ) ∧ o.dst = some d := by
    intro i o hi ho
    obtain ⟨d, Ψ, h1, h2, _⟩ := hsp i o (hget i o hi ho)
    exact ⟨d, Ψ, h1, h2⟩
  have hone : ∀ t, ∀ i j, i < Ψs.length → j < Ψs.length → (Ψs[i]?).map (·.1) = some t → (Ψs[j]?).map (·.1) = some t → i = j := by
    intro t i j hi hj h1 h2
    refine Classical.byContradiction fun hne => ?_
    have hil : i < ops.size := by omega
    have hjl : j < ops.size := by omega
    obtain ⟨d, Ψ, g1, g2⟩ := hdst i _ (by omega) (Array.getElem?_eq_getElem hil)
    obtain ⟨d', Ψ', g3, g4⟩ := hdst j _ (by omega) (Array.getElem?_eq_getElem hjl)
    rw [g1] at h1; rw [g3] at h2
    simp only [Option.map_some, Option.some.injEq] at h1 h2
    subst h1; subst h2
    obtain ⟨p, hp, hx, _⟩ := (((mono_parts hok i _ (Array.getElem?_eq_getElem hil)).2.1 (by omega)).2 _ g2).2 j (by omega) (Ne.symm hne)
    rw [Array.getElem?_eq_getElem hjl] at hp
    cases hp
    exact hx g4
  refine region_mono hm k (fun i v w => ∀ d Ψ, Ψs[i]? = some (d, Ψ) → Ψ v w) hok hk ?_ ?_ ?_
  · intro i v w w' hi hE hv d Ψ hx
    obtain ⟨o, ho⟩ : ∃ o, ops[i]? = some o := ⟨ops[i], Array.getElem?_eq_getElem (by omega)⟩
    obtain ⟨d', Ψ', h1, _, h3, _⟩ := hsp i o (hget i o hi ho)
    rw [hx] at h1
    cases h1
    exact h3 v w w' hE (hv d Ψ hx)
  · intro i o hi ho ρ w hE ht
    obtain ⟨d, Ψ, h1, h2, h3, h4⟩ := hsp i o (hget i o hi ho)
    have hr := h4 ρ w hE (by
      intro x hx
      have hx' := ht x hx
      cases x with
      | tmp t =>
        simp only [told, toldE] at hx' ⊢
        rw [lk_eq, lookup_reverse Ψs i (by omega) t (hone t)]
        have hw : writer ops i t = (List.range i).find? fun j => (Ψs[j]?).map (·.1) == some t := by
          unfold writer
          have hfc : ∀ (l : List Nat), (∀ j ∈ l, j < i) → l.find? (fun j => (ops[j]?).bind (·.dst) == some t) = l.find? fun j => (Ψs[j]?).map (·.1) == some t := by
            intro l
            induction l with
            | nil => intro _; rfl
            | cons j l ihl =>
              intro hl
              have hj : j < i := hl j (List.mem_cons_self ..)
              obtain ⟨d', Ψ', g1, g2⟩ := hdst j _ (by omega) (Array.getElem?_eq_getElem (show j < ops.size by omega))
              rw [List.find?_cons, List.find?_cons, ihl fun q hq => hl q (List.mem_cons_of_mem _ hq)]
              rw [Array.getElem?_eq_getElem (show j < ops.size by omega), g1]
              simp [g2]
          exact hfc _ fun j hj => List.mem_range.1 hj
        rw [hw] at hx'
        cases hf : (List.range i).find? (fun j => (Ψs[j]?).map (·.1) == some t) with
        | none => rw [hf] at hx'; simpa using hx'
        | some j =>
          rw [hf] at hx'
          have hj := List.mem_range.1 (List.mem_of_find?_eq_some hf)
          obtain ⟨d', Ψ', g1, g2⟩ := hdst j _ (by omega) (Array.getElem?_eq_getElem (show j < ops.size by omega))
          simp only [g1, Option.bind_some, Option.map_some]
          exact hx' d' Ψ' g1
      | const v => exact hx'
      | global g => exact hx'
      | func f => exact hx')
    unfold RunsTo at hr ⊢
    cases hres : (execOp ρ o).run P w with
    | halt x w2 => rw [hres] at hr; exact hr
    | ok nx w2 =>
      rw [hres] at hr
      cases nx with
      | value v => exact ⟨hr.1, fun d' Ψ' hx => by rw [h1] at hx; cases hx; exact hr.2⟩
      | skip => exact ⟨hr.1, fun d' Ψ' hx => by rw [h1] at hx; cases hx; exact hr.2⟩
      | enter g args => exact ⟨hr.1, hr.2.mono fun e w3 ⟨v, he, hE3, hv⟩ => ⟨v, he, hE3, fun d' Ψ' hx => by rw [h1] at hx; cases hx; exact hv⟩⟩
      | _ => exact hr
  · intro a' w' hE hd hsz hsame hval
    have hnd : (Ψs.reverse.map (·.1)).Nodup := by
      rw [List.map_reverse, (List.reverse_perm _).nodup_iff]
      refine List.pairwise_iff_getElem.2 fun i j hi hj hij heq => ?_
      simp only [List.length_map] at hi hj
      simp only [List.getElem_map] at heq
      have := hone _ i j hi hj (by rw [List.getElem?_eq_getElem hi]; rfl) (by rw [List.getElem?_eq_getElem hj]; exact congrArg some heq.symm)
      omega
    have hkey := FinE.use Ψs.reverse _ a (hF w' hE) a' hd hsz hnd (fun t ht => hsame t fun j o hj ho hdt => ?_) (fun d Ψ hm => ?_)
    · have hl : (ops.toList.drop k).length = ops.size - k := by simp
      rw [← hl, wpOps_eq_wpList (ops.toList.drop k) k (by intro j; simp)]
      exact hkey
    · obtain ⟨d', Ψ', g1, g2⟩ := hdst j o hj ho
      rw [hdt] at g2
      cases g2
      refine ht (List.mem_map.2 ⟨(t, Ψ'), List.mem_reverse.2 (List.mem_of_getElem? g1), rfl⟩)
    · obtain ⟨j, hj⟩ := List.mem_iff_getElem?.1 (List.mem_reverse.1 hm)
      have hjk : j < k := by rw [← hlen']; exact (List.getElem?_eq_some_iff.1 hj).1
      obtain ⟨o, ho⟩ : ∃ o, ops[j]? = some o := ⟨ops[j], Array.getElem?_eq_getElem (by omega)⟩
      obtain ⟨d', Ψ', g1, g2⟩ := hdst j o hjk ho
      rw [hj] at g1
      cases g1
      exact ⟨(((mono_parts hok j o ho).2.1 hjk).2 d g2).1, hval j o d hjk ho g2 d Ψ hj⟩

/-- One operation that comes to a value that can be told. -/
theorem ms_val {o : Oper} {rest : List Oper} {env : List (Tmp × Spec)} {F : List (Tmp × Spec) → Prop} {d : Tmp} (v : Value) (hd : o.dst = some d)
    (h : ∀ ρ w, Ext w0 w → (∀ x ∈ o.op.operands, toldE env a w (ρ x) x) → (execOp ρ o).run P w = .ok (.value v) w)
    (k : MS P a w0 rest ((d, fun u _ => u = v) :: env) F) : MS P a w0 (o :: rest) env F :=
  ⟨d, _, hd, fun _ _ _ _ h => h, fun ρ w hE ht => by unfold RunsTo; rw [h ρ w hE ht]; exact ⟨OnS.refl _ _, rfl⟩, k⟩
/-- One operation of whose value a word is told. -/
theorem ms_any {o : Oper} {rest : List Oper} {env : List (Tmp × Spec)} {F : List (Tmp × Spec) → Prop} {d : Tmp} (Ψ : Spec) (hd : o.dst = some d) (hst : ∀ v w w', Ext w w' → Ψ v w → Ψ v w')
    (h : ∀ ρ w, Ext w0 w → (∀ x ∈ o.op.operands, toldE env a w (ρ x) x) → RunsTo P (execOp ρ o) w Ψ)
    (k : MS P a w0 rest ((d, Ψ) :: env) F) : MS P a w0 (o :: rest) env F :=
  ⟨d, Ψ, hd, hst, h, k⟩
theorem runs_val {s : Sem Next} {w w' : World} {v : Value} {Ψ : Spec} (h : s.run P w = .ok (.value v) w') (hE : Ext w w') (hv : Ψ v w') : RunsTo P s w Ψ := by
  unfold RunsTo; rw [h]; exact ⟨hE, hv⟩
theorem runs_call {s : Sem Next} {w : World} {f : FuncId} {args : Array Value} {Ψ : Spec} (h : s.run P w = .ok (.enter f args) w) (hc : Calls P f args w fun e w'' => ∃ v, e = .returned v ∧ Ext w w'' ∧ Ψ v w'') : RunsTo P s w Ψ := by
  unfold RunsTo; rw [h]; exact ⟨OnS.refl _ _, hc⟩
end
end Go.Proofs.Ytikekdifipacmaa
