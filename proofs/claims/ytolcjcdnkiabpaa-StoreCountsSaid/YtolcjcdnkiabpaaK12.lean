/- Two rows of one's own, appended to in one statement, in whatever order. Over any program. -/
import Derived.Test.YtolcjcdnkiabpaaK11
import Derived.Test.YtolcjcdnkiabpaaK3
namespace Go.Proofs.Ytolcjcdnkiabpaa
open Go.RowKit

section
variable {P : Program} {o : Oper} {ρ : Operand → Value} {w : World} {Ψ : Value → World → Prop}
theorem runsI_val {v : Value} {w' : World} (hr : (execOp ρ o).run P w = .ok (.value v) w') (h : Ψ v w') : RunsI P (execOp ρ o) w Ψ := by
  unfold RunsI; rw [hr]; exact h
theorem runsI_skip {w' : World} (hr : (execOp ρ o).run P w = .ok .skip w') (h : Ψ undef w') : RunsI P (execOp ρ o) w Ψ := by
  unfold RunsI; rw [hr]; exact h
theorem runsI_call {f : FuncId} {args : Array Value} {w' : World} (hr : (execOp ρ o).run P w = .ok (.enter f args) w') (h : Calls P f args w' fun e w'' => ∃ v, e = .returned v ∧ Ψ v w'') : RunsI P (execOp ρ o) w Ψ := by
  unfold RunsI; rw [hr]; exact h
theorem runsI_append {α : Type} {T : Ty α} {S S' : Nat → Prop} {base : Nat} {v : Value} {xs ys : List α} {A : Option Addr} {m c : Nat} {t e : TypeId} {z : Value} {s x : Operand}
    (ho : o.op = .call { callee := .builtin .append, args := #[s, x], argTypes := #[t, t] }) (HO : OwnR S w base e T v xs) (HS : SR S' w T A m c ys) (hE : ∀ cs, Encs S' w T cs ys → Encs S w T cs ys)
    (ht : P.underlying t = some (.slice e)) (hinfo : (P.info? e).map (fun i => (i.zero, i.size, i.bytes)) = some (some z, T.size, T.bytes)) (hzs : z.cells.size = T.size) (hp : 0 < T.size)
    (hs : ρ s = v) (hx : ρ x = .slice A m c) (hb : base ≤ w.heap.size) (hl : (xs.length + m) * T.bytes ≤ 140737488355328) (hl2 : xs.length + m ≤ 140737488355328)
    (hS : ∀ k, S k → some k ≠ v.ownBlock)
    (k : ∀ v' w', OwnR S w' base e T v' (xs ++ ys) → w.grownBy w' v.ownBlock → (v'.ownBlock = v.ownBlock ∨ v'.ownBlock = some w.heap.size) → Ψ v' w') :
    RunsI P (execOp ρ o) w Ψ := by
  obtain ⟨v', w', hr, h1, h2, h3, _⟩ := run_append (P := P) (ty := o.type) HO HS hE ht hinfo hzs hp hb hl hl2 hS
  refine runsI_val (v := v') (w' := w') ?_ (k v' w' h1 h2 h3)
  unfold execOp
  simp only [ho, resolve, invoke, builtin, Sem.run_bind, Sem.run_pure, Result.andThen_ok, List.map_toArray, List.map_cons, List.map_nil, hs, hx, hr]
end

section
variable {P : Program} {o : Oper} {ρ : Operand → Value} {w : World} {Ψ : Value → World → Prop}
/-- append(v, E{..}): the cells of a block that is known whole. -/
theorem run_append_bx {α : Type} {T : Ty α} {S : Nat → Prop} {base : Nat} {v : Value} {xs ys : List α} {g m : Nat} {t e ty bt : TypeId} {z : Value} {ds : List Value}
    (HO : OwnR S w base e T v xs) (hB : Bx w g bt ds) (hE : Encs S w T ds ys) (hm : ys.length = m)
    (ht : P.underlying t = some (.slice e)) (hinfo : (P.info? e).map (fun i => (i.zero, i.size, i.bytes)) = some (some z, T.size, T.bytes)) (hzs : z.cells.size = T.size) (hp : 0 < T.size)
    (hb : base ≤ w.heap.size) (hl : (xs.length + m) * T.bytes ≤ 140737488355328) (hl2 : xs.length + m ≤ 140737488355328)
    (hS : ∀ k, S k → some k ≠ v.ownBlock) :
    ∃ v' w', (Builtin.append_ #[t, t] ty #[v, .slice (some ⟨g, 0, none⟩) m m]).run P w = .ok v' w' ∧ OwnR S w' base e T v' (xs ++ ys) ∧ w.grownBy w' v.ownBlock ∧
      (v'.ownBlock = v.ownBlock ∨ v'.ownBlock = some w.heap.size) := by
  obtain ⟨i0, hi, hz⟩ := Option.map_eq_some_iff.1 hinfo
  simp only [Prod.mk.injEq] at hz
  obtain ⟨hz0, hz1, hz2⟩ := hz
  obtain ⟨cs, h1, h2⟩ := HO.row
  obtain ⟨v', w', hr, ho, hg, hn, hat⟩ := run_append_own_at (P := P) w base t ty e i0 z T.size T.bytes ht hi hz0 hz1 hz2 hzs hp v xs.length cs h1 ⟨g, 0, none⟩ m m ds (by rw [hE.1, hm]) (fun j u hu => by rw [add_lit0, hB.cell]; exact hu) (hE.one hp) (by simp only [maxLen]; omega) hl hb
  refine ⟨v', w', hr, ⟨cs ++ ds, ?_, ?_⟩, hg, hat⟩
  · rw [List.length_append, hm]; exact ho
  · exact (h2.append hE).mono (OnS.grown hg hS)
theorem runsI_append_bx {α : Type} {T : Ty α} {S : Nat → Prop} {base : Nat} {v : Value} {xs ys : List α} {g m : Nat} {t e bt : TypeId} {z : Value} {ds : List Value} {s x : Operand}
    (ho : o.op = .call { callee := .builtin .append, args := #[s, x], argTypes := #[t, t] }) (HO : OwnR S w base e T v xs) (hB : Bx w g bt ds) (hE : Encs S w T ds ys) (hm : ys.length = m)
    (ht : P.underlying t = some (.slice e)) (hinfo : (P.info? e).map (fun i => (i.zero, i.size, i.bytes)) = some (some z, T.size, T.bytes)) (hzs : z.cells.size = T.size) (hp : 0 < T.size)
    (hs : ρ s = v) (hx : ρ x = .slice (some ⟨g, 0, none⟩) m m) (hb : base ≤ w.heap.size) (hl : (xs.length + m) * T.bytes ≤ 140737488355328) (hl2 : xs.length + m ≤ 140737488355328)
    (hS : ∀ k, S k → some k ≠ v.ownBlock)
    (k : ∀ v' w', OwnR S w' base e T v' (xs ++ ys) → w.grownBy w' v.ownBlock → (v'.ownBlock = v.ownBlock ∨ v'.ownBlock = some w.heap.size) → Ψ v' w') :
    RunsI P (execOp ρ o) w Ψ := by
  obtain ⟨v', w', hr, h1, h2, h3⟩ := run_append_bx (P := P) (ty := o.type) HO hB hE hm ht hinfo hzs hp hb hl hl2 hS
  refine runsI_val (v := v') (w' := w') ?_ (k v' w' h1 h2 h3)
  unfold execOp
  simp only [ho, resolve, invoke, builtin, Sem.run_bind, Sem.run_pure, Result.andThen_ok, List.map_toArray, List.map_cons, List.map_nil, hs, hx, hr]
end

/-- The state of 'b, l = append(b, c...), append(l, p)' half done: op 2 and op 6 are the appends, op 5 the literal. -/
structure Two {α β : Type} (TA : Ty α) (TB : Ty β) (SB : Nat → Prop) (w0 : World) (base : Nat) (eA eB : TypeId) (u v : Value) (xs cs : List α) (ws : List β) (p : β) (pcs : List Value) (D : Nat → Bool) (V : Nat → Value) (w : World) : Prop where
  on : OnS (fun k => some k ≠ u.ownBlock ∧ some k ≠ v.ownBlock) w0 w
  ra : OwnR (fun _ => False) w base eA TA (if D 2 then V 2 else u) (if D 2 then xs ++ cs else xs)
  rb : OwnR SB w base eB TB (if D 6 then V 6 else v) (if D 6 then ws ++ [p] else ws)
  ap : ∀ b, (if D 2 then V 2 else u).ownBlock = some b → (if D 6 then V 6 else v).ownBlock ≠ some b
  na : ∀ b, (if D 2 then V 2 else u).ownBlock = some b → u.ownBlock = some b ∨ w0.heap.size ≤ b
  nb : ∀ b, (if D 6 then V 6 else v).ownBlock = some b → v.ownBlock = some b ∨ w0.heap.size ≤ b
  lit : D 5 = true → ∃ g, V 5 = .slice (some ⟨g, 0, none⟩) 1 1 ∧ Bx w g eB pcs ∧ w0.heap.size ≤ g ∧ g < w.heap.size ∧ (if D 2 then V 2 else u).ownBlock ≠ some g ∧ (if D 6 then V 6 else v).ownBlock ≠ some g

section
variable {α β : Type} {TA : Ty α} {TB : Ty β} {SB : Nat → Prop} {w0 : World} {base : Nat} {eA eB : TypeId} {u v : Value} {xs cs : List α} {ws : List β} {p : β} {pcs : List Value} {D : Nat → Bool} {V : Nat → Value} {w : World}

/-- An operation that is none of the three and leaves the world. -/
theorem Two.plain (h : Two TA TB SB w0 base eA eB u v xs cs ws p pcs D V w) (i : Nat) (h2 : i ≠ 2) (h5 : i ≠ 5) (h6 : i ≠ 6) (x : Value) :
    Two TA TB SB w0 base eA eB u v xs cs ws p pcs (fun j => if i = j then true else D j) (fun j => if i = j then x else V j) w := by
  obtain ⟨a1, a2, a3, a4, a5, a6, a7⟩ := h
  exact ⟨a1, by simpa [h2] using a2, by simpa [h6] using a3, by simpa [h2, h6] using a4, by simpa [h2] using a5, by simpa [h6] using a6, by simpa [h2, h5, h6] using a7⟩

/-- The literal is laid. -/
theorem Two.laid (h : Two TA TB SB w0 base eA eB u v xs cs ws p pcs D V w) :
    Two TA TB SB w0 base eA eB u v xs cs ws p pcs (fun j => if 5 = j then true else D j) (fun j => if 5 = j then .slice (some ⟨w.heap.size, 0, none⟩) 1 1 else V j) (w.alloc (.cells pcs.toArray eB)) := by
  obtain ⟨a1, a2, a3, a4, a5, a6, a7⟩ := h
  have e := OnS.alloc w (.cells pcs.toArray eB)
  refine ⟨a1.andThen e, by simpa using a2.ext e, by simpa using a3.ext e, by simpa using a4, by simpa using a5, by simpa using a6, fun _ => ⟨w.heap.size, by simp, Bx.new w pcs eB, a1.size, by simp, ?_, ?_⟩⟩
  · intro hq
    have := (a2.lt _ (by simpa using hq)).2
    omega
  · intro hq
    have := (a3.lt _ (by simpa using hq)).2
    omega

/-- The first row is appended to. -/
theorem Two.first (h : Two TA TB SB w0 base eA eB u v xs cs ws p pcs D V w) (hD : D 2 = false) (hSB : ∀ k, SB k → k < base) {x : Value} {w' : World} (hO : OwnR (fun _ => False) w' base eA TA x (xs ++ cs)) (hg : w.grownBy w' u.ownBlock)
    (hat : x.ownBlock = u.ownBlock ∨ x.ownBlock = some w.heap.size) :
    Two TA TB SB w0 base eA eB u v xs cs ws p pcs (fun j => if 2 = j then true else D j) (fun j => if 2 = j then x else V j) w' := by
  obtain ⟨a1, a2, a3, a4, a5, a6, a7⟩ := h
  simp only [hD, Bool.false_eq_true, if_false] at a2 a4 a5 a7
  have hOn : OnS (fun k => some k ≠ u.ownBlock) w w' := OnS.grown hg fun _ h => h
  refine ⟨a1.trans (hOn.weaken fun _ _ h => h.1), by simpa using hO, ?_, ?_, ?_, ?_, ?_⟩
  · have := a3.to hOn (fun b hb e => a4 b e.symm (by simpa using hb)) (fun b hb hs e => by have h1 := (a2.lt b e.symm).1; have h2 := hSB b hs; omega)
    simpa using this
  · intro b hb
    simp only [if_true] at hb
    have : (if D 6 = true then V 6 else v).ownBlock ≠ some b := by
      rcases hat with e | e
      · exact a4 b (e ▸ hb)
      · intro h6
        rw [e] at hb
        cases hb
        have := (a3.lt _ h6).2
        omega
    simpa using this
  · intro b hb
    simp only [if_true] at hb
    rcases hat with e | e
    · exact .inl (e ▸ hb)
    · rw [e] at hb; cases hb; exact .inr a1.size
  · simpa using a6
  · intro h5
    obtain ⟨g, h1, h2, h3, hgl, h4, h4'⟩ := a7 (by simpa using h5)
    have hsz := hg.size
    refine ⟨g, by simpa using h1, h2.to hOn (fun e => h4 e.symm), h3, by omega, ?_, by simpa using h4'⟩
    · simp only [if_true]
      intro hx
      rcases hat with e | e
      · exact h4 (e ▸ hx)
      · rw [e] at hx
        cases hx
        omega

/-- The second row is appended to. -/
theorem Two.second (h : Two TA TB SB w0 base eA eB u v xs cs ws p pcs D V w) (hD : D 6 = false) {x : Value} {w' : World} (hO : OwnR SB w' base eB TB x (ws ++ [p])) (hg : w.grownBy w' v.ownBlock)
    (hat : x.ownBlock = v.ownBlock ∨ x.ownBlock = some w.heap.size) :
    Two TA TB SB w0 base eA eB u v xs cs ws p pcs (fun j => if 6 = j then true else D j) (fun j => if 6 = j then x else V j) w' := by
  obtain ⟨a1, a2, a3, a4, a5, a6, a7⟩ := h
  simp only [hD, Bool.false_eq_true, if_false] at a3 a4 a6 a7
  have hOn : OnS (fun k => some k ≠ v.ownBlock) w w' := OnS.grown hg fun _ h => h
  have hsz := hg.size
  refine ⟨a1.trans (hOn.weaken fun _ _ h => h.2), ?_, by simpa using hO, ?_, ?_, ?_, ?_⟩
  · have := a2.to hOn (fun b hb e => a4 b (by simpa using hb) e.symm) (fun b hb hs => hs.elim)
    simpa using this
  · intro b hb hb6
    simp only [if_true] at hb6
    have hb' : (if D 2 = true then V 2 else u).ownBlock = some b := by simpa using hb
    rcases hat with e | e
    · exact a4 b hb' (e ▸ hb6)
    · rw [e] at hb6
      cases hb6
      have := (a2.lt _ hb').2
      omega
  · simpa using a5
  · intro b hb
    simp only [if_true] at hb
    rcases hat with e | e
    · exact .inl (e ▸ hb)
    · rw [e] at hb; cases hb; exact .inr a1.size
  · intro h5
    obtain ⟨g, h1, h2, h3, hgl, h4, h4'⟩ := a7 (by simpa using h5)
    refine ⟨g, by simpa using h1, h2.to hOn (fun e => h4' e.symm), h3, by omega, by simpa using h4, ?_⟩
    · simp only [if_true]
      intro hx
      rcases hat with e | e
      · exact h4' (e ▸ hx)
      · rw [e] at hx
        cases hx
        omega
end
end Go.Proofs.Ytolcjcdnkiabpaa
