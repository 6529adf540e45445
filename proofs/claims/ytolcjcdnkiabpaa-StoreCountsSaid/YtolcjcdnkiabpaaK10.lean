/- Literals of bytes; append to a row of one's own. Over any program. -/
import Derived.Test.YtolcjcdnkiabpaaK9
import Derived.ArgAppend
import Derived.IntWalk
import Derived.Lib.Hide
namespace Go.Proofs.Ytolcjcdnkiabpaa
open Go.RowKit

/-- A literal's bytes. -/
theorem Encs.u8s (S : Nat → Prop) (w : World) : ∀ xs : List Int, (∀ x ∈ xs, 0 ≤ x ∧ x ≤ 255) → Encs S w tU8 (xs.map (.int .u8)) xs := by
  intro xs h
  refine ⟨by simp [tInt], fun i hi => ?_⟩
  have := h xs[i] (List.getElem_mem _)
  refine ⟨?_, by simpa [IntKind.min, IntKind.signed] using this.1, by simpa [IntKind.max, IntKind.signed, IntKind.bits] using this.2⟩
  rw [show tU8.size = 1 from rfl, Nat.mul_one, List.take_one, List.head?_drop]
  simp [hi]

theorem SR.ofMark (w : World) (e : TypeId) (fr : Nat × Nat) (xs : List Int) (h : ∀ x ∈ xs, 0 ≤ x ∧ x ≤ 255) (n : Nat) (hn : n = xs.length) (hs : n ≤ 1000) :
    SR (fun _ => True) (w.alloc (.cells (xs.map (.int .u8)).toArray e fr)) tU8 (some ⟨w.heap.size, 0, none⟩) n n xs := by
  refine ⟨hn.symm, Nat.le_refl _, by simp [tInt]; omega, by omega, fun h => (by cases h), _, Encs.u8s _ _ xs h, fun ad ha _ => ?_⟩
  cases ha
  refine ⟨trivial, rfl, fun j hj => ?_⟩
  have := World.cell?_alloc_mark w (xs.map (.int .u8)).toArray e fr j
  have ea : (⟨w.heap.size, 0, none⟩ : Addr).add j = ⟨w.heap.size, j, none⟩ := by
    unfold Addr.add
    by_cases h0 : j = 0 <;> simp [h0]
  rw [ea]
  simpa using this

section
variable {P : Program} {ops : Array Oper} {rest : List Oper} {o : Oper} {a : Act} {Q : Exit → Act → World → Prop} {w : World}
/-- append(v, ys...), v a row of one's own, what is below its base untouched. -/
theorem wl_appB {α : Type} {T : Ty α} {S S' : Nat → Prop} {base : Nat} {v : Value} {xs ys : List α} {A : Option Addr} {m c : Nat} {t e : TypeId} {z : Value} {s x : Operand}
    (ho : o.op = .call { callee := .builtin .append, args := #[s, x], argTypes := #[t, t] }) (HO : OwnR S w base e T v xs) (HS : SR S' w T A m c ys) (hE : ∀ cs, Encs S' w T cs ys → Encs S w T cs ys)
    (ht : P.underlying t = some (.slice e)) (hinfo : (P.info? e).map (fun i => (i.zero, i.size, i.bytes)) = some (some z, T.size, T.bytes)) (hzs : z.cells.size = T.size) (hp : 0 < T.size)
    (hw : Region.wanted o (yielded ops a.tmps) = true) (hs : a.eval s = v) (hx : a.eval x = .slice A m c) (hb : base ≤ w.heap.size) (hl : (xs.length + m) * T.bytes ≤ 140737488355328) (hl2 : xs.length + m ≤ 140737488355328)
    (hS : ∀ k, S k → k < base) (N : Nat) (hN : xs.length + m = N)
    (k : ∀ A' c' w', OwnR S w' base e T (.slice A' N c') (xs ++ ys) → OnS (· < base) w w' → wpList P ops Q rest (a.put o.dst (.slice A' N c')) w') :
    wpList P ops Q (o :: rest) a w := by
  refine wl_append ho HO HS hE ht hinfo hzs hp hw hs hx hb hl hl2 (fun i hi e => ?_) ?_
  · have := (HO.lt i e.symm).1
    have := hS i hi
    omega
  · intro v' w' h1 h2 _ _
    obtain ⟨A', c', rfl⟩ := h1.slice
    have hN' : (xs ++ ys).length = N := by rw [List.length_append, HS.len]; exact hN
    rw [hN'] at h1 ⊢
    exact k A' c' w' h1 (OnS.grown h2 fun i hi e => by have := (HO.lt i e.symm).1; omega)
end
theorem lit8 (w : World) (e : TypeId) (cs : List Value) (xs : List Int) (hc : cs = xs.map (.int .u8)) (h : ∀ x ∈ xs, 0 ≤ x ∧ x ≤ 255) (n : Nat) (hn : n = xs.length) (hs : n ≤ 1000) (p : Nat) (hp : w.heap.size = p) : SR (fun _ => True) (w.alloc (.cells cs.toArray e)) tU8 (.some ⟨p, 0, none⟩) n n xs := by
  subst hc hp
  exact SR.ofBx (Bx.new w (xs.map (.int .u8)) e) (Encs.u8s _ _ xs h) trivial n hn (by subst hn; simp [tInt]; omega) (by omega)

section
variable {P : Program} {ops : Array Oper} {rest : List Oper} {o : Oper} {a : Act} {Q : Exit → Act → World → Prop} {w : World}
theorem encs_map8 (S : Nat → Prop) (w : World) (xs : List Int) (h : ∀ x ∈ xs, 0 ≤ x ∧ x ≤ 255) : Encs S w tU8 (xs.map (.int .u8)) xs := Encs.u8s S w xs h
theorem SR.range8 {S : Nat → Prop} {A : Option Addr} {n c : Nat} {xs : List Int} (h : SR S w tU8 A n c xs) : ∀ x ∈ xs, 0 ≤ x ∧ x ≤ 255 := by
  obtain ⟨h1, h2, h3, h3', h4, cs, h5, h6⟩ := h
  intro x hx
  obtain ⟨i, hi, rfl⟩ := List.getElem_of_mem hx
  obtain ⟨_, g2, g3⟩ := h5.2 i hi
  exact ⟨by simpa [IntKind.min, IntKind.signed] using g2, by simpa [IntKind.max, IntKind.signed, IntKind.bits] using g3⟩
/-- append(s, t...) of bytes that finds no room: a new row. -/
theorem wl_app_grow8 {S S' : Nat → Prop} {xs ys : List Int} {A : Addr} {B : Option Addr} {n c m d : Nat} {t e : TypeId} {z : Value} {s x : Operand}
    (ho : o.op = .call { callee := .builtin .append, args := #[s, x], argTypes := #[t, t] }) (H1 : SR S w tU8 (some A) n c xs) (H2 : SR S' w tU8 B m d ys)
    (ht : P.underlying t = some (.slice e)) (hinfo : (P.info? e).map (fun i => (i.zero, i.size, i.bytes)) = some (some z, 1, 1)) (hzs : z.cells.size = 1)
    (hw : Region.wanted o (yielded ops a.tmps) = true) (hs : a.eval s = .slice (some A) n c) (hx : a.eval x = .slice B m d) (hfull : c < n + m) (hl : n + m ≤ 140737488355328) (N : Nat) (hN : n + m = N)
    (k : ∀ A' c' w', OwnR (fun _ => False) w' w.heap.size e tU8 (.slice A' N c') (xs ++ ys) → Ext w w' → wpList P ops Q rest (a.put o.dst (.slice A' N c')) w') :
    wpList P ops Q (o :: rest) a w := by
  obtain ⟨i0, hi, hz⟩ := Option.map_eq_some_iff.1 hinfo
  simp only [Prod.mk.injEq] at hz
  obtain ⟨hz0, hz1, hz2⟩ := hz
  have hc := H1.cap
  obtain ⟨ad, rfl⟩ := H2.addr (by have := H2.cap; omega)
  have hl1 := H1.len
  have hl2 := H2.len
  obtain ⟨v', w', hr, ho', hg⟩ := run_append_arg_grows (P := P) w t o.type e i0 z 1 1 ht hi hz0 hz1 hz2 hzs (by decide) A n c (xs.map (.int .u8)) (by simp [hl1]) H1.cells8 ad m d (ys.map (.int .u8)) (by simp [hl2]) H2.cells8 hfull (by simp only [maxLen]; omega) (by omega)
  have hE : Ext w w' := OnS.grown hg (fun _ _ e => by cases e)
  have hlen : (xs ++ ys).length = N := by simp [hl1, hl2, hN]
  have hO : OwnR (fun _ => False) w' w.heap.size e tU8 v' (xs ++ ys) :=
    ⟨xs.map (.int .u8) ++ ys.map (.int .u8), by rw [hlen, ← hN]; exact ho', by
      rw [← List.map_append]
      exact encs_map8 _ _ _ (fun x hx => by rcases List.mem_append.1 hx with h | h; exact H1.range8 x h; exact H2.range8 x h)⟩
  obtain ⟨A', c', rfl⟩ := hO.slice
  rw [hlen] at hO hr
  refine wl_run hw (v := .slice A' N c') (w' := w') ?_ (k A' c' w' hO hE)
  unfold execOp
  simp only [ho, resolve, invoke, builtin, Sem.run_bind, Sem.run_pure, Result.andThen_ok, List.map_toArray, List.map_cons, List.map_nil, hs, hx, hr]
end
end Go.Proofs.Ytolcjcdnkiabpaa
