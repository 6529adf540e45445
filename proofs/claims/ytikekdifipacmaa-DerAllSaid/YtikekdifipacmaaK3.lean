/- Rows of one's own: append. Over any program. -/
import Derived.Test.YtikekdifipacmaaK2
namespace Go.Proofs.Ytikekdifipacmaa
open Go.RowKit

theorem add_lit0 (b j : Nat) : (⟨b, 0, none⟩ : Addr).add j = ⟨b, j, none⟩ := by unfold Addr.add; split <;> simp_all

/-- A block whose cells are data is a slice that reads as them. -/
theorem SR.ofBx {α : Type} {S : Nat → Prop} {w : World} {T : Ty α} {b : Nat} {t : TypeId} {cs : List Value} {xs : List α} (h : Bx w b t cs) (he : Encs S w T cs xs) (hs : S b) (n : Nat) (hn : n = xs.length)
    (hb : n * T.bytes ≤ 140737488355328) (h3 : n ≤ 140737488355328) : SR S w T (some ⟨b, 0, none⟩) n n xs :=
  ⟨hn.symm, Nat.le_refl _, hb, h3, fun e => (by cases e), cs, he, fun ad ha _ => by
    cases ha
    exact ⟨hs, rfl, fun j hj => by rw [add_lit0]; exact h.cell j⟩⟩

/-- A row of one's own, from block base on, that reads as a list. -/
structure OwnR {α : Type} (S : Nat → Prop) (w : World) (base : Nat) (e : TypeId) (T : Ty α) (v : Value) (xs : List α) : Prop where
  row : ∃ cs, w.ownsRow base e T.size v xs.length cs ∧ Encs S w T cs xs

section
variable {α : Type} {S S' : Nat → Prop} {w w' : World} {base : Nat} {e : TypeId} {T : Ty α} {v : Value} {xs : List α}
theorem OwnR.nil (S : Nat → Prop) (w : World) (base : Nat) (e : TypeId) (T : Ty α) : OwnR S w base e T (.slice none 0 0) [] :=
  ⟨[], World.ownsRow_nil w base e T.size, Encs.nil S w T⟩
/-- '[]E{}', 'make([]E, 0, 0)'. -/
theorem OwnR.empty (S : Nat → Prop) {w : World} {b : Nat} (h : Bx w b e []) (hb : base ≤ b) (T : Ty α) : OwnR S w base e T (.slice (some ⟨b, 0, none⟩) 0 0) [] :=
  ⟨[], ⟨by simp, .inr ⟨b, 0, #[], rfl, hb, h.blk, Nat.le_refl _, Nat.zero_le _, by simp, by simp⟩⟩, Encs.nil S w T⟩
theorem OwnR.ofBx {cs : List Value} {b : Nat} (h : Bx w b e cs) (hb : base ≤ b) (he : Encs S w T cs xs) (n : Nat) (hn : n = xs.length) (hm : n ≤ 140737488355328) : OwnR S w base e T (.slice (some ⟨b, 0, none⟩) n n) xs := by
  subst hn
  exact ⟨cs, ⟨he.1, .inr ⟨b, _, cs.toArray, rfl, hb, h.blk, Nat.le_refl _, by simp only [maxLen]; omega, by simp [he.1], by rw [List.take_of_length_le (by simp [he.1])]⟩⟩, he⟩
theorem OwnR.lt (h : OwnR S w base e T v xs) : ∀ k, v.ownBlock = some k → base ≤ k ∧ k < w.heap.size := by
  obtain ⟨cs, h1, _⟩ := h.row
  exact h1.lt
theorem OwnR.slice (h : OwnR S w base e T v xs) : ∃ A c, v = .slice A xs.length c := by
  obtain ⟨cs, h1, _⟩ := h.row
  rcases h1.2 with ⟨rfl, h2⟩ | ⟨g, cap, cur, rfl, _⟩
  · exact ⟨none, 0, by rw [h2]⟩
  · exact ⟨_, _, rfl⟩
theorem OwnR.to (h : OwnR S w base e T v xs) (k : OnS S' w w') (hv : ∀ b, v.ownBlock = some b → S' b) (hs : ∀ b, b < w.heap.size → S b → S' b) : OwnR S w' base e T v xs := by
  obtain ⟨cs, h1, h2⟩ := h.row
  refine ⟨cs, ⟨h1.1, ?_⟩, h2.mono (k.weaken hs)⟩
  rcases h1.2 with h3 | ⟨g, cap, cur, rfl, hb, hg, r⟩
  · exact .inl h3
  · exact .inr ⟨g, cap, cur, rfl, hb, (k.block g (Array.getElem?_eq_some_iff.1 hg).1 (hv g rfl)).trans hg, r⟩
theorem OwnR.ext (h : OwnR S w base e T v xs) (k : Ext w w') : OwnR S w' base e T v xs := h.to k (fun _ _ => trivial) (fun _ _ _ => trivial)
/-- It may be read. -/
theorem OwnR.read (h : OwnR S w base e T v xs) (hv : ∀ b, v.ownBlock = some b → S' b) (hs : ∀ k, k < w.heap.size → S k → S' k) (hb : xs.length * T.bytes ≤ 140737488355328) (hm : xs.length ≤ 140737488355328) :
    ∃ A c, v = .slice A xs.length c ∧ SR S' w T A xs.length c xs := by
  obtain ⟨cs, h1, h2⟩ := h.row
  rcases h1.2 with ⟨rfl, h3⟩ | ⟨g, cap, cur, rfl, hb', hg, hc, hm', hsz, ht⟩
  · obtain rfl : xs = [] := List.eq_nil_of_length_eq_zero h3
    exact ⟨none, 0, rfl, SR.nils _ _ _⟩
  · refine ⟨_, cap, rfl, rfl, hc, hb, hm, fun e => (by cases e), cs, h2.weaken hs, fun ad ha hn => ?_⟩
    cases ha
    refine ⟨hv g rfl, rfl, fun j hj => ?_⟩
    rw [add_lit0, cell_of_row w g j cur _ (0, 0) hg, ← ht, List.getElem?_take, if_pos (by rw [← h2.1]; exact hj)]
    simp
end

section
variable {P : Program} {ops : Array Oper} {rest : List Oper} {o : Oper} {a : Act} {Q : Exit → Act → World → Prop} {w : World}

theorem run_append_nothing (t ty e : TypeId) (i : TypeInfo) (ht : P.underlying t = some (.slice e)) (hi : P.info? e = some i) (base : Nat) (size : Nat) (v : Value) (n : Nat) (cs : List Value) (h : w.ownsRow base e size v n cs) (c : Nat) :
    (Builtin.append_ #[t, t] ty #[v, .slice none 0 c]).run P w = .ok v w := by
  rcases h.2 with ⟨rfl, hn⟩ | ⟨g, cap, cur, rfl, _, _, hnc, _⟩
  · simp [Builtin.append_, run_underlying ht, sizeOf, typeInfo, hi, Builtin.lenOf, Builtin.firstCells]
  · simp [Builtin.append_, run_underlying ht, sizeOf, typeInfo, hi, Builtin.lenOf, Builtin.firstCells, hnc, storeCells]

theorem run_append {α : Type} {T : Ty α} {S S' : Nat → Prop} {base : Nat} {v : Value} {xs ys : List α} {A : Option Addr} {m c : Nat} {t e ty : TypeId} {z : Value}
    (HO : OwnR S w base e T v xs) (HS : SR S' w T A m c ys) (hE : ∀ cs, Encs S' w T cs ys → Encs S w T cs ys)
    (ht : P.underlying t = some (.slice e)) (hinfo : (P.info? e).map (fun i => (i.zero, i.size, i.bytes)) = some (some z, T.size, T.bytes)) (hzs : z.cells.size = T.size) (hp : 0 < T.size)
    (hb : base ≤ w.heap.size) (hl : (xs.length + m) * T.bytes ≤ 140737488355328) (hl2 : xs.length + m ≤ 140737488355328)
    (hS : ∀ k, S k → some k ≠ v.ownBlock) :
    ∃ v' w', (Builtin.append_ #[t, t] ty #[v, .slice A m c]).run P w = .ok v' w' ∧ OwnR S w' base e T v' (xs ++ ys) ∧ w.grownBy w' v.ownBlock ∧
      (v'.ownBlock = v.ownBlock ∨ v'.ownBlock = some w.heap.size) ∧ (v' = .slice none 0 0 ↔ v = .slice none 0 0 ∧ m = 0) := by
  obtain ⟨i0, hi, hz⟩ := Option.map_eq_some_iff.1 hinfo
  simp only [Prod.mk.injEq] at hz
  obtain ⟨hz0, hz1, hz2⟩ := hz
  obtain ⟨cs, h1, h2⟩ := HO.row
  obtain ⟨hlen, hcap, hby, hsm, hnil, ds, h3, h4⟩ := HS
  cases A with
  | none =>
    have hc := hnil rfl
    obtain rfl : m = 0 := by omega
    obtain rfl : ys = [] := List.eq_nil_of_length_eq_zero hlen
    exact ⟨v, w, run_append_nothing t ty e i0 ht hi base T.size v xs.length cs h1 c, by simpa using HO, World.grownBy.refl w _, .inl rfl, by simp⟩
  | some ad =>
    have hnews : ∀ j u, ds[j]? = some u → w.cell? (ad.add j) = some u := by
      intro j u hu
      have hj : j < ds.length := (List.getElem?_eq_some_iff.1 hu).1
      have hm : 0 < m := by
        rcases Nat.eq_zero_or_pos m with h0 | h0
        · rw [h3.1, hlen, h0] at hj; omega
        · exact h0
      rw [(h4 ad rfl hm).2.2 j hj, hu]
    obtain ⟨v', w', hr, ho, hg, hn, hat⟩ := run_append_own_at (P := P) w base t ty e i0 z T.size T.bytes ht hi hz0 hz1 hz2 hzs hp v xs.length cs h1 ad m c ds (by rw [h3.1, hlen]) hnews (h3.one hp) (by simp only [maxLen]; omega) hl hb
    refine ⟨v', w', hr, ⟨cs ++ ds, ?_, ?_⟩, hg, hat, hn⟩
    · rw [List.length_append, hlen]; exact ho
    · exact (h2.append (hE _ h3)).mono (OnS.grown hg hS)

/-- append(v, ys...), v a row of one's own. -/
theorem wl_append {α : Type} {T : Ty α} {S S' : Nat → Prop} {base : Nat} {v : Value} {xs ys : List α} {A : Option Addr} {m c : Nat} {t e : TypeId} {z : Value} {s x : Operand}
    (ho : o.op = .call { callee := .builtin .append, args := #[s, x], argTypes := #[t, t] }) (HO : OwnR S w base e T v xs) (HS : SR S' w T A m c ys) (hE : ∀ cs, Encs S' w T cs ys → Encs S w T cs ys)
    (ht : P.underlying t = some (.slice e)) (hinfo : (P.info? e).map (fun i => (i.zero, i.size, i.bytes)) = some (some z, T.size, T.bytes)) (hzs : z.cells.size = T.size) (hp : 0 < T.size)
    (hw : Region.wanted o (yielded ops a.tmps) = true) (hs : a.eval s = v) (hx : a.eval x = .slice A m c) (hb : base ≤ w.heap.size) (hl : (xs.length + m) * T.bytes ≤ 140737488355328) (hl2 : xs.length + m ≤ 140737488355328)
    (hS : ∀ k, S k → some k ≠ v.ownBlock)
    (k : ∀ v' w', OwnR S w' base e T v' (xs ++ ys) → w.grownBy w' v.ownBlock → (v'.ownBlock = v.ownBlock ∨ v'.ownBlock = some w.heap.size) → (v' = .slice none 0 0 ↔ v = .slice none 0 0 ∧ m = 0) → wpList P ops Q rest (a.put o.dst v') w') :
    wpList P ops Q (o :: rest) a w := by
  obtain ⟨v', w', hr, h1, h2, h3, h4⟩ := run_append (P := P) (ty := o.type) HO HS hE ht hinfo hzs hp hb hl hl2 hS
  refine wl_run hw (v := v') (w' := w') ?_ (k v' w' h1 h2 h3 h4)
  unfold execOp
  simp only [ho, resolve, invoke, builtin, Sem.run_bind, Sem.run_pure, Result.andThen_ok, List.map_toArray, List.map_cons, List.map_nil, hs, hx, hr]
end
theorem Encs.flat {q : IntKind} {by_ : Nat} {S S' : Nat → Prop} {w w' : World} {cs : List Value} {xs : List Int} (h : Encs S w (tInt q by_) cs xs) : Encs S' w' (tInt q by_) cs xs := ⟨h.1, fun i hi => h.2 i hi⟩
end Go.Proofs.Ytikekdifipacmaa
