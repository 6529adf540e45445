/- der.Write: a piece as bytes. -/
import Derived.Test.YtikekdifipacmaaD18
import Derived.IntWalk
import Derived.Lib.Hide
namespace Go.Proofs.Ytikekdifipacmaa
open Go.RowKit

section
variable {P : Program} {ops : Array Oper} {rest : List Oper} {o : Oper} {a : Act} {Q : Exit → Act → World → Prop} {w : World}
/-- append(v, ys...), v a row of one's own, what is below its base untouched. -/
theorem wl_appB {α : Type} {T : Ty α} {S S' : Nat → Prop} {base : Nat} {v : Value} {xs ys : List α} {A : Option Addr} {m c : Nat} {t e : TypeId} {z : Value} {s x : Operand}
    (ho : o.op = .call { callee := .builtin .append, args := #[s, x], argTypes := #[t, t] }) (HO : OwnR S w base e T v xs) (HS : SR S' w T A m c ys) (hE : ∀ cs, Encs S' w T cs ys → Encs S w T cs ys)
    (ht : P.underlying t = some (.slice e)) (hinfo : (P.info? e).map (fun i => (i.zero, i.size, i.bytes)) = some (some z, T.size, T.bytes)) (hzs : z.cells.size = T.size) (hp : 0 < T.size)
    (hw : Region.wanted o (yielded ops a.tmps) = true) (hs : a.eval s = v) (hx : a.eval x = .slice A m c) (hb : base ≤ w.heap.size) (hl : (xs.length + m) * T.bytes ≤ 140737488355328) (hl2 : xs.length + m ≤ 140737488355328)
    (hS : ∀ k, S k → k < base) (N : Nat) (hN : xs.length + m = N)
    (k : ∀ A' c' w', OwnR S w' base e T (.slice A' N c') (xs ++ ys) → OnS (· < base) w w' → wpList P ops Q rest (a.put o.dst (.slice A' N c')) w') :
    wpList P ops Q (o :: rest) a w := by
  refine wl_append ho HO HS hE ht hinfo hzs hp hw hs hx hb hl hl2 (fun i hi e => ?_) ?_
  · have := (HO.lt i e.symm).1
    have := hS i hi
    omega
  · intro v' w' h1 h2 _ _
    obtain ⟨A', c', rfl⟩ := h1.slice
    have hN' : (xs ++ ys).length = N := by rw [List.length_append, HS.len]; exact hN
    rw [hN'] at h1 ⊢
    exact k A' c' w' h1 (OnS.grown h2 fun i hi e => by have := (HO.lt i e.symm).1; omega)
end
theorem lit8 (w : World) (cs : List Value) (xs : List Int) (hc : cs = xs.map (.int .u8)) (h : ∀ x ∈ xs, 0 ≤ x ∧ x ≤ 255) (n : Nat) (hn : n = xs.length) (hs : n ≤ 1000) (p : Nat) (hp : w.heap.size = p) : SR (fun _ => True) (w.alloc (.cells cs.toArray 5)) tU8 (.some ⟨p, 0, none⟩) n n xs := by
  subst hc hp
  exact SR.ofBx (Bx.new w (xs.map (.int .u8)) 5) (Encs.u8s _ _ xs h) trivial n hn (by subst hn; simp [tInt]; omega) (by omega)

/-- A piece's bytes. -/
def wr (t : Int) (b : List Int) : List Int :=
  (t :: if b.length < 128 then [(b.length : Int)] else if b.length < 256 then [129, (b.length : Int)] else [130, (b.length : Int) / 256, (b.length : Int) % 256]) ++ b

set_option maxRecDepth 100000 in
set_option maxHeartbeats 4000000 in
theorem write_any {S : Nat → Prop} {A : Option Addr} {n c : Nat} {b : List Int} (t : Int) (w : World) (H : SR S w tU8 A n c b) (ht0 : 0 ≤ t) (ht1 : t ≤ 255) (ht : t % 32 ≠ 31) (hn : n ≤ 4000) :
    Calls Try.prog 19 #[.agg #[.int .u8 t, .slice A n c]] w fun e w' => ∃ A' c', e = .returned (.tuple #[.slice A' (wr t b).length c', .int .i64 0]) ∧ Ext w w' ∧ SR (w.heap.size ≤ ·) w' tU8 A' (wr t b).length c' (wr t b) := by
  have hl := H.len
  have ht' : (t % 32 == 31) = false := by simpa using ht
  go_enter Try.func19, Try.ntmps19
  iterate 5 go_step
  generalize hw1 : World.alloc w _ = w1
  have hE : Ext w w1 := hw1 ▸ OnS.alloc w _
  have hB : Bx w1 w.heap.size 28 [.int .u8 t, .slice A n c] := hw1 ▸ Bx.new w [.int .u8 t, .slice A n c] 28
  clear hw1
  have b0 := hB.cell 0
  have b1 := hB.cell 1
  simp only [List.getElem?_cons_zero, List.getElem?_cons_succ] at b0 b1
  have hz1 := hB.lt
  by_cases h1 : (n : Int) < 128
  · skip
    repeat' ((fail_if_success at_builtin); first | go_values | go_skip | go_guarded | go_step)
    refine wl_appB (T := tU8) (base := w1.heap.size) rfl ((OwnR.ofBx (S := fun _ => False) (T := tU8) (xs := [t]) (Bx.new w1 [.int .u8 t] 5) (Nat.le_refl _) (Encs.u8s _ _ [t] (by simp; omega)) 1 rfl (by decide)).ext (OnS.alloc _ _)) (lit8 _ [.int .u8 n] [(n : Int)] rfl (by simp; omega) 1 rfl (by decide) (w1.heap.size + 1) (by simp)) (fun _ h => h.flat) Try.underlying25 Try.info5 rfl (by decide) rfl rfl rfl ?_ ?_ ?_ (fun _ h => h.elim) 2 rfl ?_
    · simp; omega
    · simp [tInt]
    · simp
    intro A2 c2 w2 hO hW
    have hB2 := (hB.to (S := fun _ => True) ((OnS.alloc _ _).trans (OnS.alloc _ _)) trivial).to hW hz1
    have hE2 : Ext w w2 := OnS.since (hE.trans ((OnS.alloc _ _).trans (OnS.alloc _ _))) hW (fun i hi _ => by omega)
    have H2 := H.mono (OnS.ext hE2)
    have b2 := hB2.cell 1
    simp only [List.getElem?_cons_zero, List.getElem?_cons_succ] at b2
    have hz2 := hW.size
    simp only [World.size_alloc] at hz2
    clear b0 b1 hB
    simp only [List.cons_append, List.nil_append] at hO
    have hd : decide (4096 < (n : Int) + 2) = false := by simp only [decide_eq_false_iff_not]; omega
    obtain ⟨N, hN⟩ : ∃ N, ([t, (n : Int)] : List Int).length + n = N := ⟨_, rfl⟩
    repeat' ((fail_if_success at_builtin); first | go_values | go_skip | go_guarded | go_step)
    refine wl_appB (T := tU8) (base := w1.heap.size) rfl hO H2 (fun _ h => h.flat) Try.underlying25 Try.info5 rfl (by decide) rfl rfl rfl ?_ ?_ ?_ (fun _ h => h.elim) N hN ?_
    · omega
    · simp [tInt]; omega
    · simp; omega
    intro A3 c3 w3 hO3 hW3
    have hw : wr t b = [t, (n : Int)] ++ b := by unfold wr; rw [if_pos (by omega)]; rw [hl]; try rfl
    have hNL : N = (wr t b).length := by rw [hw, List.length_append, hl]; exact hN.symm
    rw [← hw] at hO3
    obtain ⟨A4, c4, h4, hR⟩ := hO3.read (S' := (w.heap.size ≤ ·)) (fun b hb => by have := (hO3.lt b hb).1; omega) (fun _ _ h => h.elim) (by rw [← hNL, ← hN]; simp [tInt]; omega) (by rw [← hNL, ← hN]; simp; omega)
    rw [← hNL] at hR h4
    cases h4
    have HNL := Lib.hid hNL
    clear hNL hw
    repeat' (first | go_values | go_skip | go_guarded | go_step)
    go_ret2
    exact ⟨_, _, by rw [← HNL.out]; rfl, OnS.since hE2 hW3 (fun i hi _ => by omega), HNL.out ▸ hR⟩
  · by_cases h2 : (n : Int) < 256
    · skip
      repeat' ((fail_if_success at_builtin); first | go_values | go_skip | go_guarded | go_step)
      refine wl_appB (T := tU8) (base := w1.heap.size) rfl ((OwnR.ofBx (S := fun _ => False) (T := tU8) (xs := [t]) (Bx.new w1 [.int .u8 t] 5) (Nat.le_refl _) (Encs.u8s _ _ [t] (by simp; omega)) 1 rfl (by decide)).ext (OnS.alloc _ _)) (lit8 _ [.int .u8 129, .int .u8 n] [129, (n : Int)] rfl (by simp; omega) 2 rfl (by decide) (w1.heap.size + 1) (by simp)) (fun _ h => h.flat) Try.underlying25 Try.info5 rfl (by decide) rfl rfl rfl ?_ ?_ ?_ (fun _ h => h.elim) 3 rfl ?_
      · simp; omega
      · simp [tInt]
      · simp
      intro A2 c2 w2 hO hW
      have hB2 := (hB.to (S := fun _ => True) ((OnS.alloc _ _).trans (OnS.alloc _ _)) trivial).to hW hz1
      have hE2 : Ext w w2 := OnS.since (hE.trans ((OnS.alloc _ _).trans (OnS.alloc _ _))) hW (fun i hi _ => by omega)
      have H2 := H.mono (OnS.ext hE2)
      have b2 := hB2.cell 1
      simp only [List.getElem?_cons_zero, List.getElem?_cons_succ] at b2
      have hz2 := hW.size
      simp only [World.size_alloc] at hz2
      clear b0 b1 hB
      simp only [List.cons_append, List.nil_append] at hO
      have hd : decide (4096 < (n : Int) + 3) = false := by simp only [decide_eq_false_iff_not]; omega
      obtain ⟨N, hN⟩ : ∃ N, ([t, 129, (n : Int)] : List Int).length + n = N := ⟨_, rfl⟩
      repeat' ((fail_if_success at_builtin); first | go_values | go_skip | go_guarded | go_step)
      refine wl_appB (T := tU8) (base := w1.heap.size) rfl hO H2 (fun _ h => h.flat) Try.underlying25 Try.info5 rfl (by decide) rfl rfl rfl ?_ ?_ ?_ (fun _ h => h.elim) N hN ?_
      · omega
      · simp [tInt]; omega
      · simp; omega
      intro A3 c3 w3 hO3 hW3
      have hw : wr t b = [t, 129, (n : Int)] ++ b := by unfold wr; rw [if_neg (by omega), if_pos (by omega)]; rw [hl]; try rfl
      have hNL : N = (wr t b).length := by rw [hw, List.length_append, hl]; exact hN.symm
      rw [← hw] at hO3
      obtain ⟨A4, c4, h4, hR⟩ := hO3.read (S' := (w.heap.size ≤ ·)) (fun b hb => by have := (hO3.lt b hb).1; omega) (fun _ _ h => h.elim) (by rw [← hNL, ← hN]; simp [tInt]; omega) (by rw [← hNL, ← hN]; simp; omega)
      rw [← hNL] at hR h4
      cases h4
      have HNL := Lib.hid hNL
      clear hNL hw
      repeat' (first | go_values | go_skip | go_guarded | go_step)
      go_ret2
      exact ⟨_, _, by rw [← HNL.out]; rfl, OnS.since hE2 hW3 (fun i hi _ => by omega), HNL.out ▸ hR⟩
    · skip
      repeat' ((fail_if_success at_builtin); first | go_values | go_skip | go_guarded | go_step)
      refine wl_appB (T := tU8) (base := w1.heap.size) rfl ((OwnR.ofBx (S := fun _ => False) (T := tU8) (xs := [t]) (Bx.new w1 [.int .u8 t] 5) (Nat.le_refl _) (Encs.u8s _ _ [t] (by simp; omega)) 1 rfl (by decide)).ext (OnS.alloc _ _)) (lit8 _ [.int .u8 130, .int .u8 (n / 256), .int .u8 (n % 256)] [130, (n : Int) / 256, (n : Int) % 256] rfl (by simp; omega) 3 rfl (by decide) (w1.heap.size + 1) (by simp)) (fun _ h => h.flat) Try.underlying25 Try.info5 rfl (by decide) rfl rfl rfl ?_ ?_ ?_ (fun _ h => h.elim) 4 rfl ?_
      · simp; omega
      · simp [tInt]
      · simp
      intro A2 c2 w2 hO hW
      have hB2 := (hB.to (S := fun _ => True) ((OnS.alloc _ _).trans (OnS.alloc _ _)) trivial).to hW hz1
      have hE2 : Ext w w2 := OnS.since (hE.trans ((OnS.alloc _ _).trans (OnS.alloc _ _))) hW (fun i hi _ => by omega)
      have H2 := H.mono (OnS.ext hE2)
      have b2 := hB2.cell 1
      simp only [List.getElem?_cons_zero, List.getElem?_cons_succ] at b2
      have hz2 := hW.size
      simp only [World.size_alloc] at hz2
      clear b0 b1 hB
      simp only [List.cons_append, List.nil_append] at hO
      have hd : decide (4096 < (n : Int) + 4) = false := by simp only [decide_eq_false_iff_not]; omega
      obtain ⟨N, hN⟩ : ∃ N, ([t, 130, (n : Int) / 256, (n : Int) % 256] : List Int).length + n = N := ⟨_, rfl⟩
      repeat' ((fail_if_success at_builtin); first | go_values | go_skip | go_guarded | go_step)
      refine wl_appB (T := tU8) (base := w1.heap.size) rfl hO H2 (fun _ h => h.flat) Try.underlying25 Try.info5 rfl (by decide) rfl rfl rfl ?_ ?_ ?_ (fun _ h => h.elim) N hN ?_
      · omega
      · simp [tInt]; omega
      · simp; omega
      intro A3 c3 w3 hO3 hW3
      have hw : wr t b = [t, 130, (n : Int) / 256, (n : Int) % 256] ++ b := by unfold wr; rw [if_neg (by omega), if_neg (by omega)]; rw [hl]; try rfl
      have hNL : N = (wr t b).length := by rw [hw, List.length_append, hl]; exact hN.symm
      rw [← hw] at hO3
      obtain ⟨A4, c4, h4, hR⟩ := hO3.read (S' := (w.heap.size ≤ ·)) (fun b hb => by have := (hO3.lt b hb).1; omega) (fun _ _ h => h.elim) (by rw [← hNL, ← hN]; simp [tInt]; omega) (by rw [← hNL, ← hN]; simp; omega)
      rw [← hNL] at hR h4
      cases h4
      have HNL := Lib.hid hNL
      clear hNL hw
      repeat' (first | go_values | go_skip | go_guarded | go_step)
      go_ret2
      exact ⟨_, _, by rw [← HNL.out]; rfl, OnS.since hE2 hW3 (fun i hi _ => by omega), HNL.out ▸ hR⟩
end Go.Proofs.Ytikekdifipacmaa
