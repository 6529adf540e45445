/- A region that draws its order, with guards, within a round of a range over a function. Over any program. -/
import Derived.Test.YtikekdifipacmaaK8
import Derived.TacticsIn
import Derived.OrdersIn
import Derived.RangeFuncIn
namespace Go.Proofs.Ytikekdifipacmaa
open Go.RowKit

section
variable {lp nn : Nat} {P : Program} {ops : Array Oper} {Q : Exit → Act → World → Prop} {a : Act} {w0 : World} {k : Nat} {Φ : Nat → Value → World → Prop}

/-- The tail, one operation behind the other. -/
theorem tail_anyGIn {n : Nat} (hok : monoG ops k n = true) : ∀ (f m : Nat) (listed : Array Bool) (a' : Act) (w' : World), m + f = ops.size → k ≤ m → listed.size = ops.size →
    (∀ j, j < ops.size → (listed.getD j false = true ↔ j < m)) → wpOpsIn (Fence.wide.inRound lp) nn P ops Q (List.range' m f) a' w' → wpAnyIn (Fence.wide.inRound lp) nn P .any ops Q f listed a' w' := by
  intro f
  induction f with
  | zero =>
    intro m listed a' w' hm _ hsz hl h
    refine ⟨?_, by simpa [wpOpsIn] using h⟩
    refine List.eq_nil_iff_forall_not_mem.2 fun i hi => ?_
    obtain ⟨h1, o, ho, _⟩ := mem_ready.1 hi
    have hlt : i < ops.size := (Array.getElem?_eq_some_iff.1 ho).1
    have := (hl i hlt).2 (by omega)
    rw [getD_tf _ _ (by omega), this] at h1
    cases h1
  | succ f ih =>
    intro m listed a' w' hm hkm hsz hl h
    have hmlt : m < ops.size := by omega
    obtain ⟨o, ho⟩ : ∃ o, ops[m]? = some o := ⟨ops[m], Array.getElem?_eq_getElem hmlt⟩
    have hp := monoG_parts hok m o ho
    have hready : m ∈ Region.ready .any ops listed := by
      refine mem_ready.2 ⟨?_, o, ho, fun e he hb => ?_⟩
      · have h1 := hl m hmlt
        rw [getD_tf _ _ (by omega)]
        cases hq : listed.getD m false with
        | false => rfl
        | true => have := h1.1 hq; omega
      · have h1 := hp.1 e he hb
        exact (hl e.on (by omega)).2 h1
    refine ⟨fun h0 => (by rw [h0] at hready; cases hready), fun i hi => ?_⟩
    have him : i = m := by
      obtain ⟨h1, oi, hoi, h2⟩ := mem_ready.1 hi
      have hlt : i < ops.size := (Array.getElem?_eq_some_iff.1 hoi).1
      rcases Nat.lt_trichotomy i m with h3 | h3 | h3
      · have := (hl i hlt).2 h3
        rw [getD_tf _ _ (by omega), this] at h1
        cases h1
      · exact h3
      · have he := (monoG_parts hok i oi hoi).2.2 (by omega) m h3
        have h5 := reach_listed (ops := ops) (fun j p hpj hlj e he1 he2 => by
          have hj : j < ops.size := (Array.getElem?_eq_some_iff.1 hpj).1
          have h6 := (monoG_parts hok j p hpj).1 e he1 he2
          exact (hl e.on (by omega)).2 (by have := (hl j hj).1 hlj; omega)) _ oi m h2 he
        have := (hl m hmlt).1 h5
        omega
    subst him
    rw [List.range'_succ, wpOpsIn_cons] at h
    refine wpOpIn_mono (fun a2 w2 h2 => ih (i + 1) _ a2 w2 (by omega) (by omega) (by simpa using hsz) (fun j hj => ?_) h2) h
    rw [getD_set _ _ _ _ (by omega)]
    split
    · rename_i e; subst e; simp
    · rename_i e
      rw [hl j hj]
      omega

theorem region_monoGIn (hnd : (ops.all fun o => match o.op with | .defer _ => false | _ => true) = true) (hm : P.follows .mixedOrders = true) {id : Nat} (k : Nat) (Φ : Nat → Value → World → Prop) (hok : monoG ops k a.tmps.size = true) (hk : k ≤ ops.size)
    (hst : ∀ i v w w', i < k → Ext w w' → Φ i v w → Φ i v w')
    (hstep : ∀ i o, i < k → ops[i]? = some o → ∀ ρ w, Ext w0 w → (∀ x ∈ o.op.operands, told ops Φ a w i (ρ x) x) → GStep P ρ o w Φ i)
    (hfin : ∀ a' w', Ext w0 w' → a'.defers = a.defers → a'.tmps.size = a.tmps.size → (∀ t, (∀ j o, j < k → ops[j]? = some o → o.dst ≠ some t) → a'.tmps[t]? = a.tmps[t]?) →
      (∀ j o d, j < k → ops[j]? = some o → o.dst = some d → Φ j (a'.tmps.getD d undef) w') → wpOpsIn (Fence.wide.inRound lp) nn P ops Q (List.range' k (ops.size - k)) a' w') :
    (Code.region id ops true).wpIn (Fence.wide.inRound lp) nn P Q a w0 := by
  refine wpIn_region_any hm ?_
  have main : ∀ (f : Nat) (listed : Array Bool) (a' : Act) (w' : World), MInv ops Φ a w0 k listed a' w' → (∀ j, k ≤ j → j < ops.size → listed.getD j false = false) →
      (∃ c, c ≤ k ∧ f = ops.size - c ∧ ((List.range k).filter fun j => listed.getD j false).length = c) → wpAnyIn (Fence.wide.inRound lp) nn P .any ops Q f listed a' w' := by
    intro f
    induction f with
    | zero =>
      intro listed a' w' hI htl ⟨c, hck, hf, hc⟩
      have hcc : c = k := by omega
      have hall : ∀ j, j < k → listed.getD j false = true := by
        intro j hj
        have h1 : ((List.range k).filter fun j => listed.getD j false).length = (List.range k).length := by rw [hc, hcc]; simp
        exact List.length_filter_eq_length_iff.1 h1 j (List.mem_range.2 hj)
      refine tail_anyGIn hok 0 ops.size listed a' w' (by omega) hk hI.size (fun j hj => ⟨fun _ => hj, fun _ => hall j (by omega)⟩) ?_
      have h2 := hfin a' w' hI.ext hI.defers hI.tsize (fun t ht => hI.same t fun j o hj _ ho => ht j o hj ho) (fun j o d hj ho hd => hI.done j o d hj (hall j hj) ho hd)
      have : ops.size - k = 0 := by omega
      rw [this] at h2
      simpa using h2
    | succ f ih =>
      intro listed a' w' hI htl ⟨c, hck, hf, hc⟩
      by_cases hcc : c = k
      · have hall : ∀ j, j < k → listed.getD j false = true := by
          intro j hj
          have h1 : ((List.range k).filter fun j => listed.getD j false).length = (List.range k).length := by rw [hc, hcc]; simp
          exact List.length_filter_eq_length_iff.1 h1 j (List.mem_range.2 hj)
        refine tail_anyGIn hok (f + 1) k listed a' w' (by omega) (Nat.le_refl _) hI.size (fun j hj => ⟨fun h => ?_, fun h => hall j h⟩) ?_
        · rcases Nat.lt_or_ge j k with h1 | h1
          · exact h1
          · rw [htl j h1 hj] at h; cases h
        · have h2 := hfin a' w' hI.ext hI.defers hI.tsize (fun t ht => hI.same t fun j o hj _ ho => ht j o hj ho) (fun j o d hj ho hd => hI.done j o d hj (hall j hj) ho hd)
          have : ops.size - k = f + 1 := by omega
          rwa [this] at h2
      · -- some of the first k is still to come
        have hnot : ∃ j, j < k ∧ listed.getD j false = false := by
          refine Classical.byContradiction fun hno => hcc ?_
          rw [← hc, List.filter_eq_self.2, List.length_range]
          intro j hj
          cases hq : listed.getD j false with
          | true => rfl
          | false => exact absurd ⟨j, List.mem_range.1 hj, hq⟩ hno
        have hready : ∃ i, i ∈ Region.ready .any ops listed := by
          obtain ⟨j, hj⟩ := hnot
          have hex : ∃ i, (i < k ∧ listed.getD i false = false) ∧ ∀ l, l < i → ¬ (l < k ∧ listed.getD l false = false) := by
            exact least (p := fun i => i < k ∧ listed.getD i false = false) j hj
          obtain ⟨i, ⟨hi1, hi2⟩, hi3⟩ := hex
          have hilt : i < ops.size := by omega
          refine ⟨i, mem_ready.2 ⟨?_, ops[i], Array.getElem?_eq_getElem hilt, fun e he hb => ?_⟩⟩
          · rw [getD_tf _ _ (by rw [hI.size]; exact hilt)]
            exact hi2
          · have h1 := (monoG_parts hok i _ (Array.getElem?_eq_getElem hilt)).1 e he hb
            cases hq : listed.getD e.on false with
            | true => rfl
            | false => exact absurd ⟨by omega, hq⟩ (hi3 e.on h1)
        refine ⟨fun h0 => (by obtain ⟨i, hi⟩ := hready; rw [h0] at hi; cases hi), fun i hi => ?_⟩
        obtain ⟨h1, o, ho, h2⟩ := mem_ready.1 hi
        have hilt : i < ops.size := (Array.getElem?_eq_some_iff.1 ho).1
        have hib : i < listed.size := by rw [hI.size]; exact hilt
        have hif : listed.getD i false = false := by
          rw [getD_tf _ _ hib] at h1
          exact h1
        have hp := monoG_parts hok i o ho
        have hik : i < k := by
          refine Classical.byContradiction fun hge => ?_
          obtain ⟨j, hj1, hj2⟩ := hnot
          rw [reach_listed hI.down _ o j h2 (hp.2.2 hge j (by omega))] at hj2
          cases hj2
        obtain ⟨hg, hd⟩ := hp.2.1 hik
        have hrun := hstep i o hik ho a'.eval w' hI.ext (by
          intro x hx
          cases x with
          | tmp t =>
            have hrd : readsTmp o t = true := by
              simp only [readsTmp, Array.any_eq_true']
              exact ⟨.tmp t, hx, by simp⟩
            simp only [told]
            split
            · rename_i j hj
              have hj1 := List.find?_some hj
              have hj2 := List.mem_of_find?_eq_some hj
              simp only [beq_iff_eq] at hj1
              have hji : j < i := List.mem_range.1 hj2
              obtain ⟨p, hpj⟩ : ∃ p, ops[j]? = some p := ⟨ops[j], Array.getElem?_eq_getElem (by omega)⟩
              rw [hpj] at hj1
              have hpd : p.dst = some t := hj1
              have hpp := ((monoG_parts hok j p hpj).2.1 (by omega)).2 t hpd
              obtain ⟨o', ho', _, hedge⟩ := hpp.2 i hik (by omega)
              rw [ho] at ho'
              cases ho'
              have hl : listed.getD j false = true := by
                rcases hedge hrd with he | he
                · obtain ⟨e, he1, he2, rfl⟩ := hasEdge_iff he
                  exact h2 e he1 he2
                · obtain ⟨e, he1, he2, he3⟩ := hasEdge_iff he
                  have := (monoG_parts hok j p hpj).1 e he1 he2
                  omega
              have := hI.done j p t (by omega) hl hpj hpd
              simpa [Act.eval] using this
            · rename_i hno
              have hsame := hI.same t (fun j p hj hl hpj hpd => by
                rcases Nat.lt_trichotomy j i with h3 | h3 | h3
                · have := List.find?_eq_none.1 hno j (List.mem_range.2 h3)
                  simp [hpj, hpd] at this
                · subst h3; rw [hif] at hl; cases hl
                · have hpp := ((monoG_parts hok j p hpj).2.1 hj).2 t hpd
                  obtain ⟨o', ho', _, hedge⟩ := hpp.2 i hik (by omega)
                  rw [ho] at ho'
                  cases ho'
                  rcases hedge hrd with he | he
                  · obtain ⟨e, he1, he2, he3⟩ := hasEdge_iff he
                    have := hp.1 e he1 he2
                    omega
                  · obtain ⟨e, he1, he2, rfl⟩ := hasEdge_iff he
                    have := hI.down j p hpj hl e he1 he2
                    rw [hif] at this
                    cases this)
              simp [Act.eval, hsame]
          | const v => simp [told, Act.eval]
          | global g => simp [told, Act.eval]
          | func f => simp [told, Act.eval])
        -- the state behind it
        have next : ∀ v w'', Ext w' w'' → Φ i v w'' → wpAnyIn (Fence.wide.inRound lp) nn P .any ops Q f (listed.setIfInBounds i true) (a'.put o.dst v) w'' := by
          intro v w'' hE hv
          refine ih _ _ _ ⟨by simpa using hI.size, ?_, hI.ext.trans hE, ?_, ?_, ?_, ?_⟩ ?_ ⟨c + 1, by omega, by omega, ?_⟩
          · intro j p hpj hl e he hb
            rw [getD_set _ _ _ _ hib] at hl ⊢
            split
            · rfl
            · split at hl
              · rename_i e1; subst e1; rw [ho] at hpj; cases hpj; exact h2 e he hb
              · exact hI.down j p hpj hl e he hb
          · cases hdd : o.dst <;> simp [Act.put, hI.defers]
          · cases hdd : o.dst <;> simp [Act.put, hI.tsize]
          · intro t ht
            have h3 := hI.same t (fun j p hj hl hpj => ht j p hj (by
              rw [getD_set _ _ _ _ hib]
              split
              · rfl
              · exact hl) hpj)
            have h4 := ht i o hik (by rw [getD_set _ _ _ _ hib]; simp) ho
            cases hdd : o.dst with
            | none => simpa [Act.put] using h3
            | some d =>
              have hne : d ≠ t := fun e => h4 (by rw [hdd, e])
              simp only [Act.put]
              rw [Array.getElem?_setIfInBounds_ne hne]
              exact h3
          · intro j p d hj hl hpj hpd
            rw [getD_set _ _ _ _ hib] at hl
            by_cases hji : i = j
            · subst hji
              rw [ho] at hpj
              cases hpj
              have hdl := (hd d hpd).1
              simp only [hpd, Act.put, Array.getD_eq_getD_getElem?]
              rw [Array.getElem?_setIfInBounds_self_of_lt (by rw [hI.tsize]; exact hdl)]
              exact hv
            · rw [if_neg hji] at hl
              have h3 := hst j _ _ _ hj hE (hI.done j p d hj hl hpj hpd)
              cases hdd : o.dst with
              | none => simpa [Act.put] using h3
              | some d' =>
                have hne : d' ≠ d := by
                  intro e
                  subst e
                  obtain ⟨p', hp', hx, _⟩ := (hd d' hdd).2 j hj (Ne.symm hji)
                  rw [hpj] at hp'
                  cases hp'
                  exact hx hpd
                simp only [Act.put, Array.getD_eq_getD_getElem?] at h3 ⊢
                rw [Array.getElem?_setIfInBounds_ne hne]
                exact h3
          · intro j hj1 hj2
            rw [getD_set _ _ _ _ hib, if_neg (by omega)]
            exact htl j hj1 hj2
          · rw [← hc]
            exact count_set listed i hib hif _ (List.mem_range.2 hik) List.nodup_range
        unfold wpOpIn
        rw [ho]
        simp only
        have hwant : Region.wanted o (yielded ops a'.tmps) = true ∧ RunsTo P (execOp a'.eval o) w' (Φ i) ∨ Region.wanted o (yielded ops a'.tmps) = false ∧ Φ i undef w' := by
          cases hgd : o.guard with
          | none =>
            unfold GStep at hrun
            rw [hgd] at hrun
            exact .inl ⟨by simp [Region.wanted, hgd], hrun⟩
          | some jb =>
            obtain ⟨j, b⟩ := jb
            unfold GStep at hrun
            rw [hgd] at hrun
            obtain ⟨hji, hje, p, d, hpj, hpd⟩ := hg j b hgd
            have hl : listed.getD j false = true := by
              obtain ⟨e, he1, he2, rfl⟩ := hasEdge_iff hje
              exact h2 e he1 he2
            have hdone := hI.done j p d (by omega) hl hpj hpd
            have hdl := (((monoG_parts hok j p hpj).2.1 (by omega)).2 d hpd).1
            have hget : a'.tmps[d]? = some (a'.tmps.getD d undef) := by
              rw [Array.getD_eq_getD_getElem?, Array.getElem?_eq_getElem (by rw [hI.tsize]; exact hdl)]; rfl
            obtain ⟨g, hgv⟩ : ∃ g, a'.tmps.getD d undef = g := ⟨_, rfl⟩
            rw [hgv] at hdone hget
            have hr := hrun g hdone
            by_cases hb : g = .bool b
            · refine .inl ⟨?_, hr.1 hb⟩
              subst hb
              simp [Region.wanted, hgd, yielded, hpj, hpd, hget]
            · refine .inr ⟨?_, hr.2 hb⟩
              clear hr hrun hdone hgv
              cases g with
              | bool c =>
                have hc : ¬ c = b := fun e => hb (by rw [e])
                simp [Region.wanted, hgd, yielded, hpj, hpd, hget, hc]
              | _ => simp [Region.wanted, hgd, yielded, hpj, hpd, hget]
        rcases hwant with ⟨hw1, hrun⟩ | ⟨hw1, hv⟩
        case inr =>
          rw [if_neg (by simp [hw1])]
          exact ⟨fun _ _ => trivial, next undef w' ⟨rfl, rfl, rfl, Nat.le_refl _, fun _ _ _ => rfl⟩ hv⟩
        rw [if_pos hw1]
        unfold Oper.wpIn
        refine ⟨fun _ _ => trivial, ?_⟩
        have hsem : o.semAt (Fence.wide.inRound lp).round a'.eval = execOp a'.eval o := by
          refine Oper.semAt_some lp _ _ fun c hc => ?_
          have h9 := (Array.all_eq_true_iff_forall_mem.1 hnd) o (Array.mem_of_getElem? ho)
          rw [hc] at h9
          cases h9
        rw [hsem]
        unfold RunsTo at hrun
        cases hres : (execOp a'.eval o).run P w' with
        | halt x w2 => rw [hres] at hrun; exact hrun.elim
        | ok nx w2 =>
          rw [hres] at hrun
          cases nx with
          | value v => exact next v w2 hrun.1 hrun.2
          | skip => exact next undef w2 hrun.1 hrun.2
          | enter g args => exact ⟨(fun h => nomatch h), CallsIn.mono (n := nn - 1) (F := Fence.wide) (callsIn_wide.2 hrun.2) fun e w3 ⟨v, he, hE3, hv⟩ => by subst he; exact next v w3 (hrun.1.trans hE3) hv⟩
          | _ => exact hrun.elim
  refine main ops.size _ a _ ⟨by simp, fun j o ho hl => ?_, ⟨rfl, rfl, rfl, Nat.le_refl _, fun _ _ _ => rfl⟩, rfl, rfl, fun _ _ => rfl, fun j o d hj hl => ?_⟩ (fun j _ hj => by simp [Array.getD, hj]) ⟨0, by omega, by omega, ?_⟩
  · have : j < ops.size := (Array.getElem?_eq_some_iff.1 ho).1
    simp [Array.getD, this] at hl
  · have : j < ops.size := by omega
    simp [Array.getD, this] at hl
  · rw [List.length_eq_zero_iff, List.filter_eq_nil_iff]
    intro j hj
    have : j < ops.size := by have := List.mem_range.1 hj; omega
    simp [Array.getD, this]
end

section
variable {lp nn : Nat} {P : Program} {a : Act} {w0 : World}

theorem region_mgIn {ops : Array Oper} {Q : Exit → Act → World → Prop} {id : Nat} (hnd : (ops.all fun o => match o.op with | .defer _ => false | _ => true) = true) (hm : P.follows .mixedOrders = true) (k : Nat) (hok : monoG ops k a.tmps.size = true) (hk : k ≤ ops.size)
    (h : MG P a w0 (ops.toList.take k) [] fun env => ∀ w, Ext w0 w → FinE w env (fun b => wpListIn (Fence.wide.inRound lp) nn P ops Q (ops.toList.drop k) b w) a) : (Code.region id ops true).wpIn (Fence.wide.inRound lp) nn P Q a w0 := by
  obtain ⟨Ψs, hlen, hF, hsp⟩ := MG.specs _ _ h
  simp only [List.append_nil] at hF hsp
  have hlen' : Ψs.length = k := by rw [hlen]; simp; omega
  have hget : ∀ i o, i < k → ops[i]? = some o → (ops.toList.take k)[i]? = some o := by
    intro i o hi ho
    rw [List.getElem?_take, if_pos hi]
    simpa using ho
  -- each result has a place of its own
  have hdst : ∀ i o, i < k → ops[i]? = some o → ∃ d Ψ, Ψs[i]? = some (d, Ψ) ∧ o.dst = some d := by
    intro i o hi ho
    obtain ⟨d, Ψ, h1, h2, _⟩ := hsp i o (hget i o hi ho)
    exact ⟨d, Ψ, h1, h2⟩
  have hone : ∀ t, ∀ i j, i < Ψs.length → j < Ψs.length → (Ψs[i]?).map (·.1) = some t → (Ψs[j]?).map (·.1) = some t → i = j := by
    intro t i j hi hj h1 h2
    refine Classical.byContradiction fun hne => ?_
    have hil : i < ops.size := by omega
    have hjl : j < ops.size := by omega
    obtain ⟨d, Ψ, g1, g2⟩ := hdst i _ (by omega) (Array.getElem?_eq_getElem hil)
    obtain ⟨d', Ψ', g3, g4⟩ := hdst j _ (by omega) (Array.getElem?_eq_getElem hjl)
    rw [g1] at h1; rw [g3] at h2
    simp only [Option.map_some, Option.some.injEq] at h1 h2
    subst h1; subst h2
    obtain ⟨p, hp, hx, _⟩ := (((monoG_parts hok i _ (Array.getElem?_eq_getElem hil)).2.1 (by omega)).2 _ g2).2 j (by omega) (Ne.symm hne)
    rw [Array.getElem?_eq_getElem hjl] at hp
    cases hp
    exact hx g4
  refine region_monoGIn hnd hm k (fun i v w => ∀ d Ψ, Ψs[i]? = some (d, Ψ) → Ψ v w) hok hk ?_ ?_ ?_
  · intro i v w w' hi hE hv d Ψ hx
    obtain ⟨o, ho⟩ : ∃ o, ops[i]? = some o := ⟨ops[i], Array.getElem?_eq_getElem (by omega)⟩
    obtain ⟨d', Ψ', h1, _, h3, _⟩ := hsp i o (hget i o hi ho)
    rw [hx] at h1
    cases h1
    exact h3 v w w' hE (hv d Ψ hx)
  · intro i o hi ho ρ w hE ht
    obtain ⟨d, Ψ, h1, h2, h3, h4⟩ := hsp i o (hget i o hi ho)
    have hr := h4 ρ w hE (by
      intro x hx
      have hx' := ht x hx
      cases x with
      | tmp t =>
        simp only [told, toldE] at hx' ⊢
        rw [lk_eq, lookup_reverse Ψs i (by omega) t (hone t)]
        have hw : writer ops i t = (List.range i).find? fun j => (Ψs[j]?).map (·.1) == some t := by
          unfold writer
          have hfc : ∀ (l : List Nat), (∀ j ∈ l, j < i) → l.find? (fun j => (ops[j]?).bind (·.dst) == some t) = l.find? fun j => (Ψs[j]?).map (·.1) == some t := by
            intro l
            induction l with
            | nil => intro _; rfl
            | cons j l ihl =>
              intro hl
              have hj : j < i := hl j (List.mem_cons_self ..)
              obtain ⟨d', Ψ', g1, g2⟩ := hdst j _ (by omega) (Array.getElem?_eq_getElem (show j < ops.size by omega))
              rw [List.find?_cons, List.find?_cons, ihl fun q hq => hl q (List.mem_cons_of_mem _ hq)]
              rw [Array.getElem?_eq_getElem (show j < ops.size by omega), g1]
              simp [g2]
          exact hfc _ fun j hj => List.mem_range.1 hj
        rw [hw] at hx'
        cases hf : (List.range i).find? (fun j => (Ψs[j]?).map (·.1) == some t) with
        | none => rw [hf] at hx'; simpa using hx'
        | some j =>
          rw [hf] at hx'
          have hj := List.mem_range.1 (List.mem_of_find?_eq_some hf)
          obtain ⟨d', Ψ', g1, g2⟩ := hdst j _ (by omega) (Array.getElem?_eq_getElem (show j < ops.size by omega))
          simp only [g1, Option.bind_some, Option.map_some]
          exact hx' d' Ψ' g1
      | const v => exact hx'
      | global g => exact hx'
      | func f => exact hx')
    have conv : RunsTo P (execOp ρ o) w Ψ → RunsTo P (execOp ρ o) w (fun v w => ∀ (d : Tmp) (Ψ : Spec), Ψs[i]? = some (d, Ψ) → Ψ v w) := by
      intro hr
      unfold RunsTo at hr ⊢
      cases hres : (execOp ρ o).run P w with
      | halt x w2 => rw [hres] at hr; exact hr
      | ok nx w2 =>
        rw [hres] at hr
        cases nx with
        | value v => exact ⟨hr.1, fun d' Ψ' hx => by rw [h1] at hx; cases hx; exact hr.2⟩
        | skip => exact ⟨hr.1, fun d' Ψ' hx => by rw [h1] at hx; cases hx; exact hr.2⟩
        | enter g args => exact ⟨hr.1, hr.2.mono fun e w3 ⟨v, he, hE3, hv⟩ => ⟨v, he, hE3, fun d' Ψ' hx => by rw [h1] at hx; cases hx; exact hv⟩⟩
        | _ => exact hr
    unfold GoalG at hr
    unfold GStep
    cases hgd : o.guard with
    | none => rw [hgd] at hr; exact conv hr
    | some jb =>
      obtain ⟨j, b⟩ := jb
      rw [hgd] at hr
      obtain ⟨t, Ψg, he, hr⟩ := hr
      have hj : Ψs[j]? = some (t, Ψg) := by
        rw [List.reverse_reverse, List.getElem?_take] at he
        split at he
        · exact he
        · cases he
      intro g hg
      have hg' := hg t Ψg hj
      rcases hr with ⟨h5, h6⟩ | ⟨h5, h6⟩
      · exact ⟨fun _ => conv h6, fun hne => absurd (h5 g hg') hne⟩
      · exact ⟨fun heq => absurd heq (h5 g hg'), fun _ d' Ψ' hx => by rw [h1] at hx; cases hx; exact h6⟩
  · intro a' w' hE hd hsz hsame hval
    have hnd : (Ψs.reverse.map (·.1)).Nodup := by
      rw [List.map_reverse, (List.reverse_perm _).nodup_iff]
      refine List.pairwise_iff_getElem.2 fun i j hi hj hij heq => ?_
      simp only [List.length_map] at hi hj
      simp only [List.getElem_map] at heq
      have := hone _ i j hi hj (by rw [List.getElem?_eq_getElem hi]; rfl) (by rw [List.getElem?_eq_getElem hj]; exact congrArg some heq.symm)
      omega
    have hkey := FinE.use Ψs.reverse _ a (hF w' hE) a' hd hsz hnd (fun t ht => hsame t fun j o hj ho hdt => ?_) (fun d Ψ hm => ?_)
    · have hl : (ops.toList.drop k).length = ops.size - k := by simp
      rw [← hl, wpOpsIn_eq_wpListIn (ops.toList.drop k) k (by intro j; simp)]
      exact hkey
    · obtain ⟨d', Ψ', g1, g2⟩ := hdst j o hj ho
      rw [hdt] at g2
      cases g2
      refine ht (List.mem_map.2 ⟨(t, Ψ'), List.mem_reverse.2 (List.mem_of_getElem? g1), rfl⟩)
    · obtain ⟨j, hj⟩ := List.mem_iff_getElem?.1 (List.mem_reverse.1 hm)
      have hjk : j < k := by rw [← hlen']; exact (List.getElem?_eq_some_iff.1 hj).1
      obtain ⟨o, ho⟩ : ∃ o, ops[j]? = some o := ⟨ops[j], Array.getElem?_eq_getElem (by omega)⟩
      obtain ⟨d', Ψ', g1, g2⟩ := hdst j o hjk ho
      rw [hj] at g1
      cases g1
      exact ⟨(((monoG_parts hok j o ho).2.1 hjk).2 d g2).1, hval j o d hjk ho g2 d Ψ hj⟩

end
end Go.Proofs.Ytikekdifipacmaa
