/- A region that draws its order and holds calls that make memory: each operation by itself, in whatever order. Over any program. -/
import Derived.Test.YtikekdifipacmaaK3
import Derived.Orders
namespace Go.Proofs.Ytikekdifipacmaa
open Go.RowKit

/-- What a run comes to: a value of which Ψ is told; nothing that was there has turned. -/
def RunsTo (P : Program) (s : Sem Next) (w : World) (Ψ : Value → World → Prop) : Prop :=
  match s.run P w with
  | .ok (.value v) w' => Ext w w' ∧ Ψ v w'
  | .ok .skip w' => Ext w w' ∧ Ψ undef w'
  | .ok (.enter f args) w' => Ext w w' ∧ Calls P f args w' fun e w'' => ∃ v, e = .returned v ∧ Ext w' w'' ∧ Ψ v w''
  | _ => False

def writer (ops : Array Oper) (i : Nat) (t : Tmp) : Option Nat := (List.range i).find? fun j => (ops[j]?).bind (·.dst) == some t

/-- What is told of an operand. -/
def told (ops : Array Oper) (Φ : Nat → Value → World → Prop) (a : Act) (w : World) (i : Nat) (v : Value) : Operand → Prop
  | .tmp t => match writer ops i t with
    | some j => Φ j v w
    | none => v = a.eval (.tmp t)
  | x => v = a.eval x

def hasEdge (o : Oper) (j : Nat) : Bool := o.after.any fun e => Region.binds .any e && e.on == j
def readsTmp (o : Oper) (t : Tmp) : Bool := o.op.operands.any fun | .tmp u => u == t | _ => false

def reach (ops : Array Oper) : Nat → Oper → Nat → Bool
  | 0, _, _ => false
  | f + 1, o, j => hasEdge o j || o.after.any fun e => Region.binds .any e && (match ops[e.on]? with | some p => reach ops f p j | none => false)
/-- The first k operations: no guard, each result in a place of its own; whoever reads a result waits for it; whoever writes what is read waits for the reader. The others: one behind the other, behind all of the first k. -/
def monoOk (ops : Array Oper) (k n : Nat) : Bool :=
  (List.range ops.size).all fun i => match ops[i]? with
    | none => false
    | some o => o.after.all (fun e => !Region.binds .any e || e.on < i) && (match o.op with | .select .. => false | _ => true) &&
      if i < k then
        o.guard.isNone &&
        (match o.dst with
          | none => true
          | some d => decide (d < n) && (List.range k).all fun j => j == i || (match ops[j]? with
            | none => false
            | some p => p.dst != some d && (!readsTmp p d || hasEdge p i || hasEdge o j)))
      else (List.range i).all fun j => reach ops ops.size o j

section
variable {P : Program} {ops : Array Oper} {Q : Exit → Act → World → Prop} {a : Act} {w0 : World} {k : Nat} {Φ : Nat → Value → World → Prop}

structure MInv (ops : Array Oper) (Φ : Nat → Value → World → Prop) (a : Act) (w0 : World) (k : Nat) (listed : Array Bool) (a' : Act) (w' : World) : Prop where
  size : listed.size = ops.size
  down : ∀ j o, ops[j]? = some o → listed.getD j false = true → ∀ e ∈ o.after, Region.binds .any e = true → listed.getD e.on false = true
  ext : Ext w0 w'
  defers : a'.defers = a.defers
  tsize : a'.tmps.size = a.tmps.size
  same : ∀ t, (∀ j o, j < k → listed.getD j false = true → ops[j]? = some o → o.dst ≠ some t) → a'.tmps[t]? = a.tmps[t]?
  done : ∀ j o d, j < k → listed.getD j false = true → ops[j]? = some o → o.dst = some d → Φ j (a'.tmps.getD d undef) w'

theorem hasEdge_iff {o : Oper} {j : Nat} (h : hasEdge o j = true) : ∃ e ∈ o.after, Region.binds .any e = true ∧ e.on = j := by
  simp only [hasEdge, Array.any_eq_true] at h
  obtain ⟨i, hi, h⟩ := h
  simp only [Bool.and_eq_true, beq_iff_eq] at h
  exact ⟨_, Array.getElem_mem hi, h.1, h.2⟩

theorem getD_set (l : Array Bool) (i j : Nat) (d : Bool) (hi : i < l.size) : (l.setIfInBounds i true).getD j d = if i = j then true else l.getD j d := by
  simp only [Array.getD_eq_getD_getElem?, Array.getElem?_setIfInBounds]
  split
  · rename_i h
    subst h
    simp
  · rfl
theorem getD_tf (l : Array Bool) (i : Nat) (h : i < l.size) : l.getD i true = l.getD i false := by
  simp [Array.getD_eq_getD_getElem?, Array.getElem?_eq_getElem h]
theorem count_set (listed : Array Bool) (i : Nat) (hib : i < listed.size) (hif : listed.getD i false = false) : ∀ (l : List Nat), i ∈ l → l.Nodup →
    (l.filter fun j => (listed.setIfInBounds i true).getD j false).length = (l.filter fun j => listed.getD j false).length + 1 := by
  intro l
  induction l with
  | nil => intro hm; cases hm
  | cons x l ihl =>
    intro hm hnd
    have hnd' := List.nodup_cons.1 hnd
    by_cases hxi : i = x
    · subst hxi
      have hrest : (l.filter fun j => (listed.setIfInBounds i true).getD j false) = l.filter fun j => listed.getD j false := by
        refine List.filter_congr fun j hj => ?_
        rw [getD_set _ _ _ _ hib, if_neg]
        rintro rfl
        exact hnd'.1 hj
      rw [List.filter_cons, List.filter_cons, hrest, hif, getD_set _ _ _ _ hib, if_pos rfl]
      simp
    · have h1 := ihl (by cases hm with | head => exact absurd rfl hxi | tail _ h => exact h) hnd'.2
      rw [List.filter_cons, List.filter_cons, getD_set _ _ _ _ hib, if_neg hxi]
      split
      · rw [List.length_cons, List.length_cons, h1]
      · exact h1
theorem least {p : Nat → Prop} : ∀ n, p n → ∃ i, p i ∧ ∀ l, l < i → ¬ p l := by
  intro n
  induction n using Nat.strongRecOn with
  | _ n ih =>
    intro h
    by_cases hl : ∃ l, l < n ∧ p l
    · obtain ⟨l, h1, h2⟩ := hl
      exact ih l h1 h2
    · exact ⟨n, h, fun l h1 h2 => hl ⟨l, h1, h2⟩⟩

theorem mono_parts {n : Nat} (h : monoOk ops k n = true) : ∀ i o, ops[i]? = some o → (∀ e ∈ o.after, Region.binds .any e = true → e.on < i) ∧
    (i < k → o.guard = none ∧ ∀ d, o.dst = some d → d < n ∧ ∀ j, j < k → j ≠ i → ∃ p, ops[j]? = some p ∧ p.dst ≠ some d ∧ (readsTmp p d = true → hasEdge p i = true ∨ hasEdge o j = true)) ∧
    (¬ i < k → ∀ j, j < i → reach ops ops.size o j = true) := by
  intro i o ho
  have hi : i < ops.size := (Array.getElem?_eq_some_iff.1 ho).1
  simp only [monoOk, List.all_eq_true, List.mem_range] at h
  have h1 := h i hi
  rw [ho] at h1
  simp only [Bool.and_eq_true] at h1
  obtain ⟨⟨h2, _⟩, h3⟩ := h1
  refine ⟨fun e he hb => ?_, fun hik => ?_, fun hik j hj => ?_⟩
  · have := (Array.all_eq_true_iff_forall_mem.1 h2) e he
    simp [hb] at this
    exact this
  · rw [if_pos hik] at h3
    simp only [Bool.and_eq_true, Option.isNone_iff_eq_none] at h3
    refine ⟨h3.1, fun d hd => ?_⟩
    have h4 := h3.2
    rw [hd] at h4
    simp only [Bool.and_eq_true, decide_eq_true_eq, List.all_eq_true, List.mem_range] at h4
    refine ⟨h4.1, fun j hj hne => ?_⟩
    have h5 := h4.2 j hj
    cases hp : ops[j]? with
    | none => rw [hp] at h5; simp [hne] at h5
    | some p =>
      rw [hp] at h5
      simp only [Bool.or_eq_true, beq_iff_eq, hne, false_or, Bool.and_eq_true, bne_iff_ne, Bool.not_eq_true'] at h5
      exact ⟨p, rfl, h5.1, fun hr => by
        rcases h5.2 with (h | h) | h
        · rw [hr] at h; cases h
        · exact .inl h
        · exact .inr h⟩
  · rw [if_neg hik] at h3
    simp only [List.all_eq_true, List.mem_range] at h3
    exact h3 j hj

theorem reach_listed {listed : Array Bool} (hdown : ∀ j o, ops[j]? = some o → listed.getD j false = true → ∀ e ∈ o.after, Region.binds .any e = true → listed.getD e.on false = true) :
    ∀ (f : Nat) (o : Oper) (j : Nat), (∀ e ∈ o.after, Region.binds .any e = true → listed.getD e.on false = true) → reach ops f o j = true → listed.getD j false = true := by
  intro f
  induction f with
  | zero => intro o j _ h; cases h
  | succ f ih =>
    intro o j ho h
    simp only [reach, Bool.or_eq_true, Array.any_eq_true, Bool.and_eq_true] at h
    rcases h with h | ⟨i, hi, hb, h⟩
    · obtain ⟨e, he1, he2, rfl⟩ := hasEdge_iff h
      exact ho e he1 he2
    · have hl := ho _ (Array.getElem_mem hi) hb
      cases hp : ops[(o.after[i]).on]? with
      | none => rw [hp] at h; cases h
      | some p =>
        rw [hp] at h
        exact ih p j (hdown _ p hp hl) h

/-- The tail, one operation behind the other. -/
theorem tail_any {n : Nat} (hok : monoOk ops k n = true) : ∀ (f m : Nat) (listed : Array Bool) (a' : Act) (w' : World), m + f = ops.size → k ≤ m → listed.size = ops.size →
    (∀ j, j < ops.size → (listed.getD j false = true ↔ j < m)) → wpOps P ops Q (List.range' m f) a' w' → wpAny P .any ops Q f listed a' w' := by
  intro f
  induction f with
  | zero =>
    intro m listed a' w' hm _ hsz hl h
    refine ⟨?_, by simpa [wpOps] using h⟩
    refine List.eq_nil_iff_forall_not_mem.2 fun i hi => ?_
    obtain ⟨h1, o, ho, _⟩ := mem_ready.1 hi
    have hlt : i < ops.size := (Array.getElem?_eq_some_iff.1 ho).1
    have := (hl i hlt).2 (by omega)
    rw [getD_tf _ _ (by omega), this] at h1
    cases h1
  | succ f ih =>
    intro m listed a' w' hm hkm hsz hl h
    have hmlt : m < ops.size := by omega
    obtain ⟨o, ho⟩ : ∃ o, ops[m]? = some o := ⟨ops[m], Array.getElem?_eq_getElem hmlt⟩
    have hp := mono_parts hok m o ho
    have hready : m ∈ Region.ready .any ops listed := by
      refine mem_ready.2 ⟨?_, o, ho, fun e he hb => ?_⟩
      · have h1 := hl m hmlt
        rw [getD_tf _ _ (by omega)]
        cases hq : listed.getD m false with
        | false => rfl
        | true => have := h1.1 hq; omega
      · have h1 := hp.1 e he hb
        exact (hl e.on (by omega)).2 h1
    refine ⟨fun h0 => (by rw [h0] at hready; cases hready), fun i hi => ?_⟩
    have him : i = m := by
      obtain ⟨h1, oi, hoi, h2⟩ := mem_ready.1 hi
      have hlt : i < ops.size := (Array.getElem?_eq_some_iff.1 hoi).1
      rcases Nat.lt_trichotomy i m with h3 | h3 | h3
      · have := (hl i hlt).2 h3
        rw [getD_tf _ _ (by omega), this] at h1
        cases h1
      · exact h3
      · have he := (mono_parts hok i oi hoi).2.2 (by omega) m h3
        have h5 := reach_listed (ops := ops) (fun j p hpj hlj e he1 he2 => by
          have hj : j < ops.size := (Array.getElem?_eq_some_iff.1 hpj).1
          have h6 := (mono_parts hok j p hpj).1 e he1 he2
          exact (hl e.on (by omega)).2 (by have := (hl j hj).1 hlj; omega)) _ oi m h2 he
        have := (hl m hmlt).1 h5
        omega
    subst him
    rw [List.range'_succ, wpOps_cons] at h
    refine wpOp_mono (fun a2 w2 h2 => ih (i + 1) _ a2 w2 (by omega) (by omega) (by simpa using hsz) (fun j hj => ?_) h2) h
    rw [getD_set _ _ _ _ (by omega)]
    split
    · rename_i e; subst e; simp
    · rename_i e
      rw [hl j hj]
      omega

theorem region_mono (hm : P.follows .mixedOrders = true) {id : Nat} (k : Nat) (Φ : Nat → Value → World → Prop) (hok : monoOk ops k a.tmps.size = true) (hk : k ≤ ops.size)
    (hst : ∀ i v w w', i < k → Ext w w' → Φ i v w → Φ i v w')
    (hstep : ∀ i o, i < k → ops[i]? = some o → ∀ ρ w, Ext w0 w → (∀ x ∈ o.op.operands, told ops Φ a w i (ρ x) x) → RunsTo P (execOp ρ o) w (Φ i))
    (hfin : ∀ a' w', Ext w0 w' → a'.defers = a.defers → a'.tmps.size = a.tmps.size → (∀ t, (∀ j o, j < k → ops[j]? = some o → o.dst ≠ some t) → a'.tmps[t]? = a.tmps[t]?) →
      (∀ j o d, j < k → ops[j]? = some o → o.dst = some d → Φ j (a'.tmps.getD d undef) w') → wpOps P ops Q (List.range' k (ops.size - k)) a' w') :
    (Code.region id ops true).wp P Q a w0 := by
  refine wp_region_any hm ?_
  have main : ∀ (f : Nat) (listed : Array Bool) (a' : Act) (w' : World), MInv ops Φ a w0 k listed a' w' → (∀ j, k ≤ j → j < ops.size → listed.getD j false = false) →
      (∃ c, c ≤ k ∧ f = ops.size - c ∧ ((List.range k).filter fun j => listed.getD j false).length = c) → wpAny P .any ops Q f listed a' w' := by
    intro f
    induction f with
    | zero =>
      intro listed a' w' hI htl ⟨c, hck, hf, hc⟩
      have hcc : c = k := by omega
      have hall : ∀ j, j < k → listed.getD j false = true := by
        intro j hj
        have h1 : ((List.range k).filter fun j => listed.getD j false).length = (List.range k).length := by rw [hc, hcc]; simp
        exact List.length_filter_eq_length_iff.1 h1 j (List.mem_range.2 hj)
      refine tail_any hok 0 ops.size listed a' w' (by omega) hk hI.size (fun j hj => ⟨fun _ => hj, fun _ => hall j (by omega)⟩) ?_
      have h2 := hfin a' w' hI.ext hI.defers hI.tsize (fun t ht => hI.same t fun j o hj _ ho => ht j o hj ho) (fun j o d hj ho hd => hI.done j o d hj (hall j hj) ho hd)
      have : ops.size - k = 0 := by omega
      rw [this] at h2
      simpa using h2
    | succ f ih =>
      intro listed a' w' hI htl ⟨c, hck, hf, hc⟩
      by_cases hcc : c = k
      · have hall : ∀ j, j < k → listed.getD j false = true := by
          intro j hj
          have h1 : ((List.range k).filter fun j => listed.getD j false).length = (List.range k).length := by rw [hc, hcc]; simp
          exact List.length_filter_eq_length_iff.1 h1 j (List.mem_range.2 hj)
        refine tail_any hok (f + 1) k listed a' w' (by omega) (Nat.le_refl _) hI.size (fun j hj => ⟨fun h => ?_, fun h => hall j h⟩) ?_
        · rcases Nat.lt_or_ge j k with h1 | h1
          · exact h1
          · rw [htl j h1 hj] at h; cases h
        · have h2 := hfin a' w' hI.ext hI.defers hI.tsize (fun t ht => hI.same t fun j o hj _ ho => ht j o hj ho) (fun j o d hj ho hd => hI.done j o d hj (hall j hj) ho hd)
          have : ops.size - k = f + 1 := by omega
          rwa [this] at h2
      · -- some of the first k is still to come
        have hnot : ∃ j, j < k ∧ listed.getD j false = false := by
          refine Classical.byContradiction fun hno => hcc ?_
          rw [← hc, List.filter_eq_self.2, List.length_range]
          intro j hj
          cases hq : listed.getD j false with
          | true => rfl
          | false => exact absurd ⟨j, List.mem_range.1 hj, hq⟩ hno
        have hready : ∃ i, i ∈ Region.ready .any ops listed := by
          obtain ⟨j, hj⟩ := hnot
          have hex : ∃ i, (i < k ∧ listed.getD i false = false) ∧ ∀ l, l < i → ¬ (l < k ∧ listed.getD l false = false) := by
            exact least (p := fun i => i < k ∧ listed.getD i false = false) j hj
          obtain ⟨i, ⟨hi1, hi2⟩, hi3⟩ := hex
          have hilt : i < ops.size := by omega
          refine ⟨i, mem_ready.2 ⟨?_, ops[i], Array.getElem?_eq_getElem hilt, fun e he hb => ?_⟩⟩
          · rw [getD_tf _ _ (by rw [hI.size]; exact hilt)]
            exact hi2
          · have h1 := (mono_parts hok i _ (Array.getElem?_eq_getElem hilt)).1 e he hb
            cases hq : listed.getD e.on false with
            | true => rfl
            | false => exact absurd ⟨by omega, hq⟩ (hi3 e.on h1)
        refine ⟨fun h0 => (by obtain ⟨i, hi⟩ := hready; rw [h0] at hi; cases hi), fun i hi => ?_⟩
        obtain ⟨h1, o, ho, h2⟩ := mem_ready.1 hi
        have hilt : i < ops.size := (Array.getElem?_eq_some_iff.1 ho).1
        have hib : i < listed.size := by rw [hI.size]; exact hilt
        have hif : listed.getD i false = false := by
          rw [getD_tf _ _ hib] at h1
          exact h1
        have hp := mono_parts hok i o ho
        have hik : i < k := by
          refine Classical.byContradiction fun hge => ?_
          obtain ⟨j, hj1, hj2⟩ := hnot
          rw [reach_listed hI.down _ o j h2 (hp.2.2 hge j (by omega))] at hj2
          cases hj2
        obtain ⟨hg, hd⟩ := hp.2.1 hik
        have hrun := hstep i o hik ho a'.eval w' hI.ext (by
          intro x hx
          cases x with
          | tmp t =>
            have hrd : readsTmp o t = true := by
              simp only [readsTmp, Array.any_eq_true']
              exact ⟨.tmp t, hx, by simp⟩
            simp only [told]
            split
            · rename_i j hj
              have hj1 := List.find?_some hj
              have hj2 := List.mem_of_find?_eq_some hj
              simp only [beq_iff_eq] at hj1
              have hji : j < i := List.mem_range.1 hj2
              obtain ⟨p, hpj⟩ : ∃ p, ops[j]? = some p := ⟨ops[j], Array.getElem?_eq_getElem (by omega)⟩
              rw [hpj] at hj1
              have hpd : p.dst = some t := hj1
              have hpp := ((mono_parts hok j p hpj).2.1 (by omega)).2 t hpd
              obtain ⟨o', ho', _, hedge⟩ := hpp.2 i hik (by omega)
              rw [ho] at ho'
              cases ho'
              have hl : listed.getD j false = true := by
                rcases hedge hrd with he | he
                · obtain ⟨e, he1, he2, rfl⟩ := hasEdge_iff he
                  exact h2 e he1 he2
                · obtain ⟨e, he1, he2, he3⟩ := hasEdge_iff he
                  have := (mono_parts hok j p hpj).1 e he1 he2
                  omega
              have := hI.done j p t (by omega) hl hpj hpd
              simpa [Act.eval] using this
            · rename_i hno
              have hsame := hI.same t (fun j p hj hl hpj hpd => by
                rcases Nat.lt_trichotomy j i with h3 | h3 | h3
                · have := List.find?_eq_none.1 hno j (List.mem_range.2 h3)
                  simp [hpj, hpd] at this
                · subst h3; rw [hif] at hl; cases hl
                · have hpp := ((mono_parts hok j p hpj).2.1 hj).2 t hpd
                  obtain ⟨o', ho', _, hedge⟩ := hpp.2 i hik (by omega)
                  rw [ho] at ho'
                  cases ho'
                  rcases hedge hrd with he | he
                  · obtain ⟨e, he1, he2, he3⟩ := hasEdge_iff he
                    have := hp.1 e he1 he2
                    omega
                  · obtain ⟨e, he1, he2, rfl⟩ := hasEdge_iff he
                    have := hI.down j p hpj hl e he1 he2
                    rw [hif] at this
                    cases this)
              simp [Act.eval, hsame]
          | const v => simp [told, Act.eval]
          | global g => simp [told, Act.eval]
          | func f => simp [told, Act.eval])
        -- the state behind it
        have next : ∀ v w'', Ext w' w'' → Φ i v w'' → wpAny P .any ops Q f (listed.setIfInBounds i true) (a'.put o.dst v) w'' := by
          intro v w'' hE hv
          refine ih _ _ _ ⟨by simpa using hI.size, ?_, hI.ext.trans hE, ?_, ?_, ?_, ?_⟩ ?_ ⟨c + 1, by omega, by omega, ?_⟩
          · intro j p hpj hl e he hb
            rw [getD_set _ _ _ _ hib] at hl ⊢
            split
            · rfl
            · split at hl
              · rename_i e1; subst e1; rw [ho] at hpj; cases hpj; exact h2 e he hb
              · exact hI.down j p hpj hl e he hb
          · cases hdd : o.dst <;> simp [Act.put, hI.defers]
          · cases hdd : o.dst <;> simp [Act.put, hI.tsize]
          · intro t ht
            have h3 := hI.same t (fun j p hj hl hpj => ht j p hj (by
              rw [getD_set _ _ _ _ hib]
              split
              · rfl
              · exact hl) hpj)
            have h4 := ht i o hik (by rw [getD_set _ _ _ _ hib]; simp) ho
            cases hdd : o.dst with
            | none => simpa [Act.put] using h3
            | some d =>
              have hne : d ≠ t := fun e => h4 (by rw [hdd, e])
              simp only [Act.put]
              rw [Array.getElem?_setIfInBounds_ne hne]
              exact h3
          · intro j p d hj hl hpj hpd
            rw [getD_set _ _ _ _ hib] at hl
            by_cases hji : i = j
            · subst hji
              rw [ho] at hpj
              cases hpj
              have hdl := (hd d hpd).1
              simp only [hpd, Act.put, Array.getD_eq_getD_getElem?]
              rw [Array.getElem?_setIfInBounds_self_of_lt (by rw [hI.tsize]; exact hdl)]
              exact hv
            · rw [if_neg hji] at hl
              have h3 := hst j _ _ _ hj hE (hI.done j p d hj hl hpj hpd)
              cases hdd : o.dst with
              | none => simpa [Act.put] using h3
              | some d' =>
                have hne : d' ≠ d := by
                  intro e
                  subst e
                  obtain ⟨p', hp', hx, _⟩ := (hd d' hdd).2 j hj (Ne.symm hji)
                  rw [hpj] at hp'
                  cases hp'
                  exact hx hpd
                simp only [Act.put, Array.getD_eq_getD_getElem?] at h3 ⊢
                rw [Array.getElem?_setIfInBounds_ne hne]
                exact h3
          · intro j hj1 hj2
            rw [getD_set _ _ _ _ hib, if_neg (by omega)]
            exact htl j hj1 hj2
          · rw [← hc]
            exact count_set listed i hib hif _ (List.mem_range.2 hik) List.nodup_range
        unfold wpOp
        rw [ho]
        simp only
        rw [if_pos (by simp [Region.wanted, hg])]
        refine .inl ?_
        unfold Oper.wp
        unfold RunsTo at hrun
        cases hres : (execOp a'.eval o).run P w' with
        | halt x w2 => rw [hres] at hrun; exact hrun.elim
        | ok nx w2 =>
          rw [hres] at hrun
          cases nx with
          | value v => exact next v w2 hrun.1 hrun.2
          | skip => exact next undef w2 hrun.1 hrun.2
          | enter g args => exact hrun.2.mono fun e w3 ⟨v, he, hE3, hv⟩ => by subst he; exact next v w3 (hrun.1.trans hE3) hv
          | _ => exact hrun.elim
  refine main ops.size _ a _ ⟨by simp, fun j o ho hl => ?_, ⟨rfl, rfl, rfl, Nat.le_refl _, fun _ _ _ => rfl⟩, rfl, rfl, fun _ _ => rfl, fun j o d hj hl => ?_⟩ (fun j _ hj => by simp [Array.getD, hj]) ⟨0, by omega, by omega, ?_⟩
  · have : j < ops.size := (Array.getElem?_eq_some_iff.1 ho).1
    simp [Array.getD, this] at hl
  · have : j < ops.size := by omega
    simp [Array.getD, this] at hl
  · rw [List.length_eq_zero_iff, List.filter_eq_nil_iff]
    intro j hj
    have : j < ops.size := by have := List.mem_range.1 hj; omega
    simp [Array.getD, this]
end
end Go.Proofs.Ytikekdifipacmaa
