/- Steps of the walk over data that lies in memory. Over any program. -/
import Derived.Test.YtikekdifipacmaaK1
namespace Go.Proofs.Ytikekdifipacmaa
open Go.RowKit

section
variable {P : Program} {ops : Array Oper} {rest : List Oper} {o : Oper} {a : Act} {Q : Exit → Act → World → Prop} {w : World}

/-- An operation that is carried out and hands back a value. -/
theorem wl_run {v : Value} {w' : World} (hw : Region.wanted o (yielded ops a.tmps) = true) (hr : (execOp a.eval o).run P w = .ok (.value v) w')
    (h : wpList P ops Q rest (a.put o.dst v) w') : wpList P ops Q (o :: rest) a w := by
  refine wpList_step fun K hK => ?_
  rw [if_pos hw]
  unfold Oper.wp
  rw [hr]
  exact hK _ _ h

/-- &xs[i]: the address, and what is told of the element there. -/
theorem wl_index {α : Type} {T : Ty α} {S : Nat → Prop} {A : Option Addr} {n c : Nat} {xs : List α} {t e : TypeId} {x i : Operand} {k : IntKind} {iv : Int}
    (ho : o.op = .indexAddr t x i) (H : SR S w T A n c xs) (ht : P.underlying t = some (.slice e)) (hi : (P.info? e).map (·.size) = some T.size)
    (hx : a.eval x = .slice A n c) (hiv : a.eval i = .int k iv) (hw : Region.wanted o (yielded ops a.tmps) = true) (h0 : 0 ≤ iv) (h1 : iv < n)
    (h : ∀ ad cs, S ad.block → T.enc S w cs (xs[iv.toNat]'(by rw [H.len]; omega)) → (∀ j, j < cs.length → w.cell? (ad.add j) = cs[j]?) → wpList P ops Q rest (a.put o.dst (.pointer (some ad))) w) :
    wpList P ops Q (o :: rest) a w := by
  obtain ⟨ad, cs, rfl, hs, he, hc⟩ := H.at iv.toNat (by omega)
  obtain ⟨i0, hi0, hz⟩ := Option.map_eq_some_iff.1 hi
  refine wl_run hw (v := .pointer (some (ad.add (iv.toNat * T.size)))) (w' := w) ?_ (h _ cs (by unfold Addr.add; split <;> exact hs) he hc)
  unfold execOp
  simp only [ho, hx, hiv]
  simp [Instr.indexAt, run_underlying ht, asIntOf, sizeOf, typeInfo, hi0, hz, h0, h1]

/-- The same of whole numbers: what the cell holds. -/
theorem wl_index_int {q : IntKind} {by_ : Nat} {S : Nat → Prop} {A : Option Addr} {n c : Nat} {xs : List Int} {t e : TypeId} {x i : Operand} {k : IntKind} {iv : Int}
    (ho : o.op = .indexAddr t x i) (H : SR S w (tInt q by_) A n c xs) (ht : P.underlying t = some (.slice e)) (hi : (P.info? e).map (·.size) = some 1)
    (hx : a.eval x = .slice A n c) (hiv : a.eval i = .int k iv) (hw : Region.wanted o (yielded ops a.tmps) = true) (h0 : 0 ≤ iv) (h1 : iv < n)
    (h : ∀ ad, w.cell? ad = some (.int q (xs.getD iv.toNat 0)) → wpList P ops Q rest (a.put o.dst (.pointer (some ad))) w) :
    wpList P ops Q (o :: rest) a w := by
  refine wl_index ho H ht hi hx hiv hw h0 h1 fun ad cs hs he hc => ?_
  obtain ⟨rfl, _⟩ := he
  have h2 := hc 0 (by simp)
  refine h ad ?_
  have h3 : iv.toNat < xs.length := by rw [H.len]; omega
  simpa [Addr.add, List.getD_eq_getElem?_getD, List.getElem?_eq_getElem h3] using h2

/-- xs[l:h], xs[l:], xs[:h] of a slice that reads as a list. -/
theorem wl_slice {α : Type} {T : Ty α} {S : Nat → Prop} {A : Option Addr} {n c : Nat} {xs : List α} {t e : TypeId} {x lo hi : Operand} {kl kh : IntKind} {il ih : Int}
    (l h : Nat) (ho : o.op = .slice t x (some lo) (some hi) none) (H : SR S w T A n c xs) (ht : P.underlying t = some (.slice e)) (hz : (P.info? e).map (·.size) = some T.size)
    (hx : a.eval x = .slice A n c) (hw : Region.wanted o (yielded ops a.tmps) = true) (hl : a.eval lo = .int kl il) (hh : a.eval hi = .int kh ih) (el : il = l) (eh : ih = h) (h0 : l ≤ h) (h1 : h ≤ n)
    (k : ∀ A', SR S w T A' (h - l) (c - l) ((xs.take h).drop l) → wpList P ops Q rest (a.put o.dst (.slice A' (h - l) (c - l))) w) :
    wpList P ops Q (o :: rest) a w := by
  obtain ⟨i0, hi0, hz⟩ := Option.map_eq_some_iff.1 hz
  have hc := H.cap
  subst el eh
  refine wl_run hw (v := .slice (if c = l then A else A.map (·.add (l * T.size))) (h - l) (c - l)) (w' := w) ?_ (k _ ((H.take h h1).drop l h0))
  unfold execOp
  simp [ho, hx, hl, hh, Instr.sliceAt, run_underlying ht, Instr.slice, Instr.sliceBounds, Instr.sliceBound, asIntOf, sizeOf, typeInfo, hi0, hz, show h ≤ c by omega, h0]
theorem wl_slice_l {α : Type} {T : Ty α} {S : Nat → Prop} {A : Option Addr} {n c : Nat} {xs : List α} {t e : TypeId} {x lo : Operand} {kl : IntKind} {il : Int}
    (l : Nat) (ho : o.op = .slice t x (some lo) none none) (H : SR S w T A n c xs) (ht : P.underlying t = some (.slice e)) (hz : (P.info? e).map (·.size) = some T.size)
    (hx : a.eval x = .slice A n c) (hw : Region.wanted o (yielded ops a.tmps) = true) (hl : a.eval lo = .int kl il) (el : il = l) (h0 : l ≤ n)
    (k : ∀ A', SR S w T A' (n - l) (c - l) (xs.drop l) → wpList P ops Q rest (a.put o.dst (.slice A' (n - l) (c - l))) w) :
    wpList P ops Q (o :: rest) a w := by
  obtain ⟨i0, hi0, hz⟩ := Option.map_eq_some_iff.1 hz
  subst el
  refine wl_run hw (v := .slice (if c = l then A else A.map (·.add (l * T.size))) (n - l) (c - l)) (w' := w) ?_ (k _ (H.drop l h0))
  unfold execOp
  simp [ho, hx, hl, Instr.sliceAt, run_underlying ht, Instr.slice, Instr.sliceBounds, Instr.sliceBound, asIntOf, sizeOf, typeInfo, hi0, hz, h0]
theorem wl_slice_h {α : Type} {T : Ty α} {S : Nat → Prop} {A : Option Addr} {n c : Nat} {xs : List α} {t e : TypeId} {x hi : Operand} {kh : IntKind} {ih : Int}
    (h : Nat) (ho : o.op = .slice t x none (some hi) none) (H : SR S w T A n c xs) (ht : P.underlying t = some (.slice e)) (hz : ((P.info? e).map (·.size)).isSome = true)
    (hx : a.eval x = .slice A n c) (hw : Region.wanted o (yielded ops a.tmps) = true) (hh : a.eval hi = .int kh ih) (eh : ih = h) (h1 : h ≤ n)
    (k : SR S w T A h c (xs.take h) → wpList P ops Q rest (a.put o.dst (.slice A h c)) w) :
    wpList P ops Q (o :: rest) a w := by
  obtain ⟨z, hz⟩ := Option.isSome_iff_exists.1 hz
  obtain ⟨i0, hi0, hz⟩ := Option.map_eq_some_iff.1 hz
  have hc := H.cap
  have hA : (if c = 0 then A else A.map (·.add (0 * i0.size))) = A := by
    split
    · rfl
    · cases A <;> simp [Addr.add]
  subst eh
  refine wl_run hw (v := .slice A h c) (w' := w) ?_ (k (H.take h h1))
  unfold execOp
  simp [ho, hx, hh, Instr.sliceAt, run_underlying ht, Instr.slice, Instr.sliceBounds, Instr.sliceBound, asIntOf, sizeOf, typeInfo, hi0, show h ≤ c by omega]
  simpa using hA

/-- An index, as a rule for the walk: in whatever world. -/
theorem SR.idx {α : Type} {T : Ty α} {S : Nat → Prop} {A : Option Addr} {n c : Nat} {xs : List α} {t e : TypeId} (H : SR S w T A n c xs) (ht : P.underlying t = some (.slice e)) (hi : (P.info? e).map (·.size) = some T.size)
    (k : IntKind) (iv : Int) (i : Nat) (ei : iv = i) (hlt : i < n) :
    ∃ ad cs, (∀ W : World, (Instr.indexAt t (.slice A n c) (.int k iv)).run P W = .ok (.pointer (some ad)) W) ∧ S ad.block ∧ T.enc S w cs (xs[i]'(by rw [H.len]; exact hlt)) ∧ ∀ j, j < cs.length → w.cell? (ad.add j) = cs[j]? := by
  obtain ⟨ad, cs, rfl, hs, he, hc⟩ := H.at i hlt
  obtain ⟨i0, hi0, hz⟩ := Option.map_eq_some_iff.1 hi
  subst ei
  refine ⟨ad.add (i * T.size), cs, fun W => ?_, by unfold Addr.add; split <;> exact hs, he, hc⟩
  simp [Instr.indexAt, run_underlying ht, asIntOf, sizeOf, typeInfo, hi0, hz, hlt]
theorem SR.idxI {q : IntKind} {by_ : Nat} {S : Nat → Prop} {A : Option Addr} {n c : Nat} {xs : List Int} {t e : TypeId} (H : SR S w (tInt q by_) A n c xs) (ht : P.underlying t = some (.slice e)) (hi : (P.info? e).map (·.size) = some 1)
    (k : IntKind) (iv : Int) (i : Nat) (ei : iv = i) (hlt : i < n) :
    ∃ ad, (∀ W : World, (Instr.indexAt t (.slice A n c) (.int k iv)).run P W = .ok (.pointer (some ad)) W) ∧ w.cell? ad = some (.int q (xs.getD i 0)) ∧ S ad.block ∧ q.min ≤ xs.getD i 0 ∧ xs.getD i 0 ≤ q.max := by
  obtain ⟨ad, cs, h1, hs, ⟨rfl, h2, h3⟩, hc⟩ := H.idx ht hi k iv i ei hlt
  have h4 : i < xs.length := by rw [H.len]; exact hlt
  have h5 := hc 0 (by simp)
  have h6 : xs.getD i 0 = xs[i] := by simp [List.getD_eq_getElem?_getD, List.getElem?_eq_getElem h4]
  rw [h6]
  exact ⟨ad, h1, by simpa [Addr.add] using h5, hs, h2, h3⟩
theorem SR.idx8 {S : Nat → Prop} {A : Option Addr} {n c : Nat} {xs : List Int} {t e : TypeId} (H : SR S w tU8 A n c xs) (ht : P.underlying t = some (.slice e)) (hi : (P.info? e).map (·.size) = some 1)
    (k : IntKind) (iv : Int) (i : Nat) (ei : iv = i) (hlt : i < n) :
    ∃ ad x, xs.getD i 0 = x ∧ (∀ W : World, (Instr.indexAt t (.slice A n c) (.int k iv)).run P W = .ok (.pointer (some ad)) W) ∧ w.cell? ad = some (.int .u8 x) ∧ S ad.block ∧ 0 ≤ x ∧ x ≤ 255 := by
  obtain ⟨ad, h1, h2, h3, h4, h5⟩ := H.idxI ht hi k iv i ei hlt
  exact ⟨ad, _, rfl, h1, h2, h3, by simpa [IntKind.min, IntKind.signed] using h4, by simpa [IntKind.max, IntKind.signed, IntKind.bits] using h5⟩
/-- A part of a slice, as a rule for the walk: in whatever world. -/
theorem SR.cutL {α : Type} {T : Ty α} {S : Nat → Prop} {A : Option Addr} {n c : Nat} {xs : List α} {t e : TypeId} (H : SR S w T A n c xs) (ht : P.underlying t = some (.slice e)) (hz : (P.info? e).map (·.size) = some T.size)
    (k : IntKind) (lv : Int) (l : Nat) (el : lv = l) (h0 : l ≤ n) :
    ∃ A' n' c', (∀ W : World, (Instr.sliceAt t (.slice A n c) (some (.int k lv)) none none).run P W = .ok (.slice A' n' c') W) ∧ SR S w T A' n' c' (xs.drop l) ∧ n' + l ≤ n ∧ n ≤ n' + l := by
  obtain ⟨i0, hi0, hz⟩ := Option.map_eq_some_iff.1 hz
  subst el
  refine ⟨if c = l then A else A.map (·.add (l * T.size)), n - l, c - l, fun W => ?_, H.drop l h0, by omega, by omega⟩
  simp [Instr.sliceAt, run_underlying ht, Instr.slice, Instr.sliceBounds, Instr.sliceBound, asIntOf, sizeOf, typeInfo, hi0, hz, h0]
theorem SR.cutH {α : Type} {T : Ty α} {S : Nat → Prop} {A : Option Addr} {n c : Nat} {xs : List α} {t e : TypeId} (H : SR S w T A n c xs) (ht : P.underlying t = some (.slice e)) (hz : ((P.info? e).map (·.size)).isSome = true)
    (k : IntKind) (hv : Int) (h : Nat) (eh : hv = h) (h0 : h ≤ n) :
    (∀ W : World, (Instr.sliceAt t (.slice A n c) none (some (.int k hv)) none).run P W = .ok (.slice A h c) W) ∧ SR S w T A h c (xs.take h) := by
  obtain ⟨z, hz⟩ := Option.isSome_iff_exists.1 hz
  obtain ⟨i0, hi0, hz⟩ := Option.map_eq_some_iff.1 hz
  have hc := H.cap
  have hA : (if c = 0 then A else A.map (·.add (0 * i0.size))) = A := by
    split
    · rfl
    · cases A <;> simp [Addr.add]
  subst eh
  refine ⟨fun W => ?_, H.take h h0⟩
  simp [Instr.sliceAt, run_underlying ht, Instr.slice, Instr.sliceBounds, Instr.sliceBound, asIntOf, sizeOf, typeInfo, hi0, show h ≤ c by omega]
  simpa using hA
theorem SR.cutLH {α : Type} {T : Ty α} {S : Nat → Prop} {A : Option Addr} {n c : Nat} {xs : List α} {t e : TypeId} (H : SR S w T A n c xs) (ht : P.underlying t = some (.slice e)) (hz : (P.info? e).map (·.size) = some T.size)
    (k k' : IntKind) (lv hv : Int) (l h : Nat) (el : lv = l) (eh : hv = h) (h0 : l ≤ h) (h1 : h ≤ n) :
    ∃ A' n' c', (∀ W : World, (Instr.sliceAt t (.slice A n c) (some (.int k lv)) (some (.int k' hv)) none).run P W = .ok (.slice A' n' c') W) ∧ SR S w T A' n' c' ((xs.take h).drop l) ∧ n' + l ≤ h ∧ h ≤ n' + l := by
  obtain ⟨i0, hi0, hz⟩ := Option.map_eq_some_iff.1 hz
  have hc := H.cap
  subst el eh
  refine ⟨if c = l then A else A.map (·.add (l * T.size)), h - l, c - l, fun W => ?_, (H.take h h1).drop l h0, by omega, by omega⟩
  simp [Instr.sliceAt, run_underlying ht, Instr.slice, Instr.sliceBounds, Instr.sliceBound, asIntOf, sizeOf, typeInfo, hi0, hz, show h ≤ c by omega, h0]
end
end Go.Proofs.Ytikekdifipacmaa
