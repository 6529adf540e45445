import Derived.Test.YtikekdifipacmaaD6
import Derived.Test.YtikekdifipacmaaK7
namespace Go.Proofs.Ytikekdifipacmaa
open Go.RowKit
attribute [local go_sem] Oper.semAt_some

theorem Try.info28 : (Try.prog.info? 28).map (fun i => (i.zero, i.size, i.bytes)) = some (some (.agg #[.int .u8 0, .slice none 0 0]), 2, 32) := by kernel_rfl
theorem Try.size28 : (Try.prog.info? 28).map (·.size) = some 2 := by kernel_rfl

/-- A piece: a tag, a body. -/
def tTlv : Ty (Int × List Int) where
  size := 2
  bytes := 32
  enc := fun S w cs x => ∃ A n c, cs = [.int .u8 x.1, .slice A n c] ∧ SR S w tU8 A n c x.2
  len := by rintro _ _ _ _ ⟨A, n, c, rfl, _⟩; rfl
  one := by rintro _ _ _ _ ⟨A, n, c, rfl, _⟩ v hv; simp at hv; rcases hv with rfl | rfl <;> rfl
  mono := fun k ⟨A, n, c, h1, h2⟩ => ⟨A, n, c, h1, h2.mono k⟩
  weaken := fun hs ⟨A, n, c, h1, h2⟩ => ⟨A, n, c, h1, h2.weaken (by decide) hs⟩

theorem ownBlock_slice (A : Option Addr) (n c : Nat) : (Value.slice A n c).ownBlock = A.map (·.block) := by cases A <;> rfl
theorem OwnR.weaken {α : Type} {S S' : Nat → Prop} {w : World} {base : Nat} {e : TypeId} {T : Ty α} {v : Value} {xs : List α} (h : OwnR S w base e T v xs) (hs : ∀ k, k < w.heap.size → S k → S' k) : OwnR S' w base e T v xs := by
  obtain ⟨cs, h1, h2⟩ := h.row
  exact ⟨cs, h1, h2.weaken hs⟩
theorem all0 (A : Option Addr) (n c : Nat) (w : World) :
    Calls Try.prog 23 #[.slice A n c] w fun e w' => e = .returned (.func (.func 26) #[] #[.pointer (some ⟨w.heap.size, 0, none⟩)]) ∧ w' = w.alloc (.cells #[.slice A n c] 25) := by
  go_enter Try.func23, Try.ntmps23
  repeat' go_step
  go_ret
  exact ⟨rfl, rfl⟩

theorem res14 {W : World} {b2 b3 : Nat} {v2 v3 : Value} (h2 : Bx W b2 36 [v2]) (h3 : Bx W b3 32 [v3]) (tmps : Array Value) (e2 : tmps.getD 2 undef = .pointer (some ⟨b2, 0, none⟩)) (e3 : tmps.getD 3 undef = .pointer (some ⟨b3, 0, none⟩)) :
    (results Try.f14 tmps).run Try.prog W = .ok (.tuple #[v2, v3]) W := by
  have c2 := h2.cell 0
  have c3 := h3.cell 0
  simp only [List.getElem?_cons_zero] at c2 c3
  simp [results, Try.results14, go_sem] at e2 e3 ⊢
  simp [e2, e3, go_sem, c2, c3]

/-- der.List's answer, plainly. -/
def listOf (l : List Piece) : List (Int × List Int) × Int := match l.find? (fun x => x.2 != 0) with
  | some x => ([], x.2)
  | none => (l.map (·.1), 0)

set_option maxHeartbeats 1000000 in
theorem list_any {S : Nat → Prop} {A : Option Addr} {n c : Nat} {b : List Int} (w : World) (H : SR S w tU8 A n c b) :
    Calls Try.prog 14 #[.slice A n c] w fun e w' => ∃ A' n' c', e = .returned (.tuple #[.slice A' n' c', .int .i64 (listOf (derAll b)).2]) ∧ Ext w w' ∧ SR (fun _ => True) w' tTlv A' n' c' (listOf (derAll b)).1 := by
  refine (callsIn_wide (n := 0)).1 ?_
  refine callsIn_of_wp_marks Try.func14 rfl trivial ?_
  refine (wpIn_wide (n := 0)).2 ?_
  simp only [Try.ntmps14, List.size_toArray, List.length_cons, List.length_nil, Nat.reduceAdd, Nat.reduceSub, Array.replicate_succ, Array.replicate_zero, List.push_toArray, List.append_toArray, List.nil_append, List.cons_append]
  repeat' go_step
  refine (all0 A n c _).mono ?_
  rintro _ w4 ⟨rfl, hw4⟩
  have b2 : Bx w4 w.heap.size 36 [.slice none 0 0] := by
    rw [hw4]; exact (((Bx.new w [.slice none 0 0] 36).to (OnS.alloc _ _) trivial).to (OnS.alloc _ _) trivial).to (OnS.alloc _ _) trivial
  have b3 : Bx w4 (w.heap.size + 1) 32 [.int .i64 0] := by
    rw [hw4]
    have := ((Bx.new (w.alloc (.cells #[.slice none 0 0] 36)) [.int .i64 0] 32).to (OnS.alloc _ (.cells #[.slice none 0 0] 36)) trivial).to (OnS.alloc _ (.cells #[.slice A n c] 25)) trivial
    simpa using this
  have b4 : Bx w4 (w.heap.size + 2) 36 [.slice none 0 0] := by
    rw [hw4]
    have := (Bx.new ((w.alloc (.cells #[.slice none 0 0] 36)).alloc (.cells #[.int .i64 0] 32)) [.slice none 0 0] 36).to (OnS.alloc _ (.cells #[.slice A n c] 25)) trivial
    simpa using this
  have b5 : Bx w4 (w.heap.size + 3) 25 [.slice A n c] := by
    rw [hw4]
    have := Bx.new (((w.alloc (.cells #[.slice none 0 0] 36)).alloc (.cells #[.int .i64 0] 32)).alloc (.cells #[.slice none 0 0] 36)) [.slice A n c] 25
    simpa using this
  have hE : Ext w w4 := by rw [hw4]; exact (((OnS.alloc w _).trans (OnS.alloc _ _)).trans (OnS.alloc _ _)).trans (OnS.alloc _ _)
  have hz : w4.heap.size = w.heap.size + 4 := by rw [hw4]; simp
  have hz' : w4.heap.size ≤ w.heap.size + 4 := by omega
  have hptr : (((w.alloc (.cells #[.slice none 0 0] 36)).alloc (.cells #[.int .i64 0] 32)).alloc (.cells #[.slice none 0 0] 36)).heap.size = w.heap.size + 3 := by simp
  rw [hptr]
  clear hw4 hz hptr
  simp only
  repeat' go_step
  refine (wpIn_wide (n := 0)).1 ?_
  have hz : w4.heap.size = w.heap.size + 4 := by have := b5.lt; omega
  refine range_all (bb := w.heap.size + 3) rfl b5 ((H.weaken (S' := (· < w.heap.size)) (by decide) (fun k hk _ => hk)).mono (OnS.ext hE))
    (fun pre W Z => (∀ x ∈ pre, x.2 = 0) ∧ Bx W w.heap.size 36 [.slice none 0 0] ∧ Bx W (w.heap.size + 1) 32 [.int .i64 0] ∧ OnS (· < w.heap.size) w W ∧
      ∃ v, Bx W (w.heap.size + 2) 36 [v] ∧ OwnR (fun k => ¬ Z k ∧ k ≠ w.heap.size + 3 ∧ k ≠ w4.heap.size + 1 ∧ k ≠ w4.heap.size) W (w.heap.size + 6) 28 tTlv v (pre.map (·.1)) ∧ (∀ k, Z k ↔ (w.heap.size ≤ k ∧ k ≤ w.heap.size + 2) ∨ v.ownBlock = some k))
    (fun cd pre W Z => cd = .ret ∧ OnS (· < w.heap.size) w W ∧ ∃ pre0 x, pre = pre0 ++ [x] ∧ (∀ x ∈ pre0, x.2 = 0) ∧ x.2 ≠ 0 ∧ Bx W w.heap.size 36 [.slice none 0 0] ∧ Bx W (w.heap.size + 1) 32 [.int .i64 x.2])
    (fun k => w.heap.size ≤ k ∧ k ≤ w.heap.size + 2) ?hS (by omega) (fun k hk => by omega) ?hJ ?h0 ?hbody ?hdone ?hstop
  case hS => exact fun k _ hk => ⟨fun hz => by omega, by omega⟩
  case hJ =>
    rintro pre W W' Z hO ⟨h1, h2, h3, h4, v, h5, h6, h7⟩
    refine ⟨h1, h2.to hO (by omega), h3.to hO (by omega), OnS.since h4 hO (fun i hi _ => by omega), v, h5.to hO (by omega), h6.to hO (fun b hb => ?_) (fun b _ hb => ⟨hb.2.1, hb.2.2.1⟩), h7⟩
    have := (h6.lt b hb).1
    omega
  case h0 =>
    intro w' hE'
    exact ⟨by simp, b2.to hE' trivial, b3.to hE' trivial, OnS.ext (hE.trans hE'), _, b4.to hE' trivial, OwnR.nil _ _ _ _ _, fun k => by simp [Value.ownBlock]⟩
  case hbody =>
    rintro pre x W Z v e hpx ⟨h1, h2, h3, h4, v0, h5, h6, h7⟩ hZ hzb hzd hzl hsz ⟨A', n', c', rfl, rfl, hsr⟩
    have hB2 := h2.lt
    simp only [List.setIfInBounds_toArray, List.set_cons_zero, List.set_cons_succ]
    repeat' gi_step
    refine ⟨OnS.ext (OnS.alloc W _), fun w2 hO2 hsz2 => ?_⟩
    rw [World.size_alloc] at hsz2
    have hz2 : W.heap.size < w2.heap.size := by omega
    clear hsz2
    have bt : Bx w2 W.heap.size 28 [.int .u8 x.1.1, .slice A' n' c'] := (Bx.new W [.int .u8 x.1.1, .slice A' n' c'] 28).to hO2 (by omega)
    have hO : OnS (· ≠ w4.heap.size + 1) W w2 := OnS.since (OnS.ext (OnS.alloc W _)) hO2 (fun i _ h => h)
    clear hO2
    have k2 := h2.to hO (by omega)
    have k3 := h3.to hO (by omega)
    have k5 := h5.to hO (by omega)
    have k6 : OwnR (fun k => ¬ Z k ∧ k ≠ w.heap.size + 3 ∧ k ≠ w4.heap.size + 1 ∧ k ≠ w4.heap.size) w2 (w.heap.size + 6) 28 tTlv v0 (pre.map (·.1)) := h6.to hO (fun b hb => by have := (h6.lt b hb).1; omega) (fun b _ hb => hb.2.2.1)
    have ksr := hsr.mono (hO.weaken (fun k _ hk => fun e => hk.1 (.inr (.inl e))))
    have k4 : OnS (· < w.heap.size) w w2 := OnS.since h4 hO (fun i hi _ => by omega)
    have c2 := k2.cell 0
    have c3 := k3.cell 0
    have c5 := k5.cell 0
    have f2 := k2.frozen 0
    have f3 := k3.frozen 0
    have f5 := k5.frozen 0
    have t0 := bt.cell 0
    have t1 := bt.cell 1
    simp only [List.getElem?_cons_zero, List.getElem?_cons_succ] at c2 c3 c5 t0 t1
    by_cases hx : x.2 = 0
    · have hx' : (x.2 != 0) = false := by simpa using hx
      have HX := Lib.hid hx
      clear hx
      have hE5 : Ext w2 (w2.alloc (.cells #[.int .u8 x.1.1, .slice A' n' c'] 28)) := OnS.alloc _ _
      have kb : Bx (w2.alloc (.cells #[.int .u8 x.1.1, .slice A' n' c'] 28)) w2.heap.size 28 [.int .u8 x.1.1, .slice A' n' c'] := Bx.new w2 _ _
      have hHO := (k6.weaken (S' := fun k => (¬ Z k ∧ k ≠ w.heap.size + 3 ∧ k ≠ w4.heap.size + 1 ∧ k ≠ w4.heap.size) ∧ k ≤ w2.heap.size) (fun k hk h => ⟨h, by omega⟩)).ext hE5
      have hHS : SR (fun k => (¬ Z k ∧ k ≠ w.heap.size + 3 ∧ k ≠ w4.heap.size + 1 ∧ k ≠ w4.heap.size) ∧ k ≤ w2.heap.size) (w2.alloc (.cells #[.int .u8 x.1.1, .slice A' n' c'] 28)) tTlv (some ⟨w2.heap.size, 0, none⟩) 1 1 [x.1] :=
        SR.ofBx kb (Encs.single (T := tTlv) ⟨A', n', c', rfl, (ksr.weaken (by decide) (fun k h2k hk => ⟨⟨fun hz => hk.1 (.inl hz), hk.2, fun e => hk.1 (.inr (.inl e)), fun e => hk.1 (.inr (.inr e))⟩, by omega⟩)).mono (OnS.ext hE5)⟩) ⟨⟨fun hz => by have := hZ _ hz; omega, by omega, by omega, by omega⟩, by omega⟩ 1 rfl (by simp [tTlv]) (by omega)
      repeat' (first | (refine wlIn_append (fun _ => trivial) rfl hHO hHS (fun _ h => h) Try.underlying36 Try.info28 rfl (by decide) rfl rfl rfl ?_ ?_ ?_ ?_ ?_) | gi_step)
      · simp; omega
      · have h8 := hpx.length_le
        have h9 := derAll_len b
        simp [tTlv] at h8 ⊢; omega
      · have h8 := hpx.length_le
        have h9 := derAll_len b
        simp at h8 ⊢; omega
      · exact fun k hk e => hk.1.1 ((h7 k).2 (.inr e.symm))
      · intro v' w5 hHO5 hg hat hnil
        have hO5 : OnS (fun k => ¬ Z k) w2 w5 := OnS.since (OnS.ext hE5) (OnS.grown (S := fun k => ¬ Z k) hg (fun k hk e => hk ((h7 k).2 (.inr e.symm)))) (fun i _ h => h)
        have hO5' : OnS (fun k => k < w.heap.size + 6) w2 w5 := OnS.since (OnS.ext hE5) (OnS.grown (S := fun k => k < w.heap.size + 6) hg (fun k hk e => by have := (h6.lt k e.symm).1; omega)) (fun i _ h => h)
        have hsz5 : w2.heap.size + 1 ≤ w5.heap.size := by have := hg.size; simpa using this
        have q2 : Bx w5 w.heap.size 36 [.slice none 0 0] := k2.to hO5' (by omega)
        have q3 : Bx w5 (w.heap.size + 1) 32 [.int .i64 0] := k3.to hO5' (by omega)
        have q5 : Bx w5 (w.heap.size + 2) 36 [v0] := k5.to hO5' (by omega)
        have d5 := q5.cell 0
        have g5 := q5.frozen 0
        simp only [List.getElem?_cons_zero] at d5
        have hvn : ∀ k, v'.ownBlock = some k → w.heap.size + 6 ≤ k ∧ k < w5.heap.size := fun k hk => hHO5.lt k hk
        have hvo : ∀ k, v'.ownBlock = some k → v0.ownBlock = some k ∨ w2.heap.size ≤ k := by
          intro k hk
          rcases hat with h | h
          · exact .inl (h ▸ hk)
          · rw [h] at hk; simp at hk; right; omega
        have hvk : ∀ k, v'.ownBlock = some k → k ≤ w2.heap.size → v0.ownBlock = some k := by
          intro k hk hle
          rcases hat with h | h
          · exact h ▸ hk
          · rw [h] at hk; simp at hk; omega
        obtain ⟨A2, c2', hv'⟩ := hHO5.slice
        rw [show (pre.map (·.1) ++ [x.1]).length = pre.length + 1 by simp] at hv'
        subst hv'
        repeat' gi_step
        refine ⟨fun k => (w.heap.size ≤ k ∧ k ≤ w.heap.size + 2) ∨ (Value.slice A2 (pre.length + 1) c2').ownBlock = some k, ⟨?_, ?_, ?_, ?_, _, q5.set 0 _, ?_, fun k => by simp only [ownBlock_slice]⟩, ?_, ?_⟩
        · intro y hy
          rcases List.mem_append.1 hy with h | h
          · exact h1 y h
          · simp at h; rw [h]; exact HX.out
        · exact q2.to (OnS.setCell _ _ _) (by dsimp only; omega)
        · exact q3.to (OnS.setCell _ _ _) (by dsimp only; omega)
        · exact OnS.since (OnS.since k4 hO5' (fun i hi h => by omega)) (OnS.setCell _ _ _) (fun i hi h => by simp; omega)
        · rw [List.map_append, List.map_singleton]
          obtain ⟨cs, hc1, hc2⟩ := hHO5.row
          have hHO6 : OwnR (fun k => ¬((w.heap.size ≤ k ∧ k ≤ w.heap.size + 2) ∨ (Value.slice A2 (pre.length + 1) c2').ownBlock = some k) ∧ k ≠ w.heap.size + 3 ∧ k ≠ w4.heap.size + 1 ∧ k ≠ w4.heap.size) w5 (w.heap.size + 6) 28 tTlv (.slice A2 (pre.length + 1) c2') (pre.map (·.1) ++ [x.1]) := by
            refine ⟨cs, hc1, hc2.weaken fun k hk h => ⟨?_, h.1.2⟩⟩
            rintro (hz | hz)
            · exact h.1.1 ((h7 k).2 (.inl hz))
            · exact h.1.1 ((h7 k).2 (.inr (hvk k hz h.2)))
          refine hHO6.to (OnS.setCell _ _ _) (fun b hb => ?_) (fun b _ hb => ?_)
          · have := (hvn b hb).1; simp; omega
          · simp; omega
        · exact OnS.since hO5 (OnS.setCell _ _ _) (fun i hi h => fun e => h ((h7 i).2 (.inl (by simp at e; omega))))
        · intro k hk
          rcases hk with hk | hk
          · exact ⟨by simp [World.setCell]; have := q5.lt; omega, .inl ((h7 k).2 (.inl hk))⟩
          · refine ⟨by simp [World.setCell]; exact (hvn k hk).2, ?_⟩
            rcases hvo k hk with h | h
            · exact .inl ((h7 k).2 (.inr h))
            · right; omega
    · have hx' : (x.2 != 0) = true := by simpa using hx
      have HX := Lib.hid hx
      clear hx
      repeat' gi_step
      refine ⟨Z, ⟨rfl, ?_, pre, x, rfl, h1, HX.out, ?_, ?_⟩, ?_⟩
      · exact OnS.since (OnS.since k4 (OnS.setCell _ _ _) (fun i hi h => by simp; omega)) (OnS.setCell _ _ _) (fun i hi h => by simp; omega)
      · exact (k2.set 0 _).to (OnS.setCell _ _ _) (by simp)
      · exact (k3.to (OnS.setCell _ _ _) (by simp)).set 0 _
      · exact OnS.since (OnS.setCell w2 ⟨w.heap.size, 0, none⟩ _ |>.weaken fun k _ hk e => hk ((h7 k).2 (.inl (by simp at e; omega)))) (OnS.setCell _ _ _) (fun i hi h => fun e => h ((h7 i).2 (.inl (by simp at e; omega))))
  case hdone =>
    rintro W Z ⟨h1, h2, h3, h4, v0, h5, h6, h7⟩ hD
    have c2 := h2.cell 0
    have c3 := h3.cell 0
    have c5 := h5.cell 0
    have f2 := h2.frozen 0
    have f3 := h3.frozen 0
    simp only [List.getElem?_cons_zero] at c2 c3 c5
    have hlo : listOf (derAll b) = ((derAll b).map (·.1), 0) := by
      unfold listOf
      rw [List.find?_eq_none.2 (fun x hx => by simp [h1 x hx])]
    have hlen := derAll_len b
    obtain ⟨A0, c0, hv⟩ := h6.slice
    rw [List.length_map] at hv
    subst hv
    dsimp only
    repeat' go_step
    generalize hw5 : World.setCell (World.setCell W _ _) _ _ = w5
    have hO5 : OnS (fun k => k ≠ w.heap.size ∧ k ≠ w.heap.size + 1) W w5 := hw5 ▸ ((OnS.setCell W ⟨w.heap.size, 0, none⟩ _).weaken (fun k _ hk => hk.1)).trans ((OnS.setCell _ ⟨w.heap.size + 1, 0, none⟩ _).weaken (fun k _ hk => hk.2))
    have q2 : Bx w5 w.heap.size 36 [.slice A0 (derAll b).length c0] := hw5 ▸ (h2.set 0 _).to (OnS.setCell _ ⟨w.heap.size + 1, 0, none⟩ _) (by dsimp only; omega)
    have q3 : Bx w5 (w.heap.size + 1) 32 [.int .i64 0] := hw5 ▸ (h3.to (OnS.setCell _ ⟨w.heap.size, 0, none⟩ _) (by dsimp only; omega)).set 0 _
    clear hw5
    have hlt3 := q3.lt
    have hD5 : w5.heap[w4.heap.size]? = some (.deferred (some [])) := by rw [hO5.block _ (Array.getElem?_eq_some_iff.1 hD).1 (by omega)]; exact hD
    refine ⟨by simp, .inl ⟨_, _, rfl, run_takeDeferred hD5, ?_⟩⟩
    have hP := OnS.putObj w5 w4.heap.size (.deferred none)
    have hOf := hO5.weaken (S' := fun k => k ≠ w.heap.size ∧ k ≠ w.heap.size + 1 ∧ k ≠ w4.heap.size) (fun k _ hk => ⟨hk.1, hk.2.1⟩) |>.trans (hP.weaken (fun k _ hk => hk.2.2))
    obtain ⟨A9, c9, hv9, hr9⟩ := (h6.to hOf (fun b hb => by have := (h6.lt b hb).1; omega) (fun b hb1 hb => ⟨fun e => hb.1 ((h7 b).2 (.inl (by omega))), fun e => hb.1 ((h7 b).2 (.inl (by omega))), hb.2.2.2⟩)).read (S' := fun k => True) (fun b hb => trivial) (fun k hk1 hk => trivial) (by simp [tTlv]; omega) (by simp; omega)
    · rw [List.length_map] at hv9 hr9
      cases hv9
      rw [hlo]
      exact ⟨_, res14 (q2.to hP (by omega)) (q3.to hP (by omega)) _ rfl rfl, A0, _, c0, rfl, (OnS.since h4 hOf (fun i hi _ => by omega)).old (fun k hk => hk), hr9⟩
  case hstop =>
    rintro cd pre W Z hpre ⟨rfl, h4, pre0, x, rfl, h1, hx, h2, h3⟩ W' hO hD
    have k2 := h2.to hO (by omega)
    have k3 := h3.to hO (by omega)
    have hltD := (Array.getElem?_eq_some_iff.1 hD).1
    have hlo : listOf (derAll b) = ([], x.2) := by
      obtain ⟨t, ht⟩ := hpre
      unfold listOf
      rw [← ht, List.append_assoc, List.find?_append, List.find?_eq_none.2 (fun y hy => by simp [h1 y hy])]
      simp [hx]
    dsimp only
    repeat' gi_step
    refine ⟨by simp, .inl ⟨_, _, rfl, run_takeDeferred hD, ?_⟩⟩
    have hP := OnS.putObj W' w4.heap.size (.deferred none)
    rw [hlo]
    refine ⟨_, res14 (k2.to hP (by omega)) (k3.to hP (by omega)) _ rfl rfl, none, 0, 0, rfl, (OnS.since (OnS.since h4 hO (fun i hi _ => by omega)) hP (fun i hi _ => by omega)).old (fun k hk => hk), SR.nils _ _ _⟩
#print axioms list_any
end Go.Proofs.Ytikekdifipacmaa
