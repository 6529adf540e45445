import Derived.Test.YtikekdifipacmaaD5
namespace Go.Proofs.Ytikekdifipacmaa
open Go.RowKit

theorem OnS.putObj (w : World) (l : Nat) (o : Obj) : OnS (· ≠ l) w (w.putObj l o) :=
  ⟨rfl, rfl, rfl, by simp [World.putObj], fun k _ hk => by simp [World.putObj, Array.getElem?_setIfInBounds_ne (Ne.symm hk)]⟩
theorem putObj_size (w : World) (l : Nat) (o : Obj) : (w.putObj l o).heap.size = w.heap.size := by simp [World.putObj]
theorem putObj_at (w : World) (l : Nat) (o : Obj) (h : l < w.heap.size) : (w.putObj l o).heap[l]? = some o := by
  simp [World.putObj, Array.getElem?_setIfInBounds_self_of_lt h]

abbrev Piece := (Int × List Int) × Int
abbrev Mut := Nat → Prop

/-- How a round of a loop may end. w2: where its body begins; Z: what may be written. -/
def BPost (J : List Piece → World → Mut → Prop) (Jx : Code → List Piece → World → Mut → Prop) (W w2 : World) (Z : Mut) (pre : List Piece) (x : Piece) : Exit → Act → World → Prop
  | .normal, _, W' => ∃ Z', J (pre ++ [x]) W' Z' ∧ OnS (fun k => ¬ Z k) w2 W' ∧ ∀ k, Z' k → k < W'.heap.size ∧ (Z k ∨ W.heap.size ≤ k)
  | .ret, _, W' => ∃ Z', Jx .ret (pre ++ [x]) W' Z' ∧ OnS (fun k => ¬ Z k) w2 W'
  | .exit id, _, W' => ∃ Z', Jx (.exit id) (pre ++ [x]) W' Z' ∧ OnS (fun k => ¬ Z k) w2 W'
  | _, _, _ => False

abbrev markOf (D : Nat) : Deferred := { target := .collected D, args := #[] }

/-- 'for t, e := range der.All(b) { .. }'. -/
theorem range_all {ps0 ps1 : Tmp} {g : Operand} {assign body : Code} {Q : Exit → Act → World → Prop} {a : Act} {w : World} {bb : Nat} {A : Option Addr} {n c : Nat} {b : List Int} {S : Mut}
    (hg : a.eval g = .func (.func 26) #[] #[.pointer (some ⟨bb, 0, none⟩)]) (hB : Bx w bb 25 [.slice A n c]) (H : SR S w tU8 A n c b)
    (J : List Piece → World → Mut → Prop) (Jx : Code → List Piece → World → Mut → Prop) (Z : Mut)
    (hS : ∀ k, k < w.heap.size → S k → ¬ Z k ∧ k ≠ bb) (hZb : ¬ Z bb) (hZ : ∀ k, Z k → k < w.heap.size)
    (hJ : ∀ pre W W' Z, OnS (fun k => k ≠ bb ∧ k ≠ w.heap.size + 1) W W' → J pre W Z → J pre W' Z)
    (h0 : ∀ w', Ext w w' → J [] w' Z)
    (hbody : ∀ pre x W Z v e, pre ++ [x] <+: derAll b → J pre W Z → (∀ k, Z k → k < W.heap.size) → ¬ Z bb → ¬ Z w.heap.size → ¬ Z (w.heap.size + 1) → w.heap.size + 2 ≤ W.heap.size → PieceAt (fun k => Z k ∨ k = w.heap.size + 1 ∨ k = w.heap.size) bb W v e x →
      assign.wpIn (Fence.wide.inRound (w.heap.size + 1)) 0 Try.prog (Exit.then (fun a₁ w₁ => OnS (fun k => ¬ Z k) W w₁ ∧ ∀ w₂, OnS (· ≠ w.heap.size + 1) w₁ w₂ → w₂.heap.size = w₁.heap.size →
        body.wpIn (Fence.wide.inRound (w.heap.size + 1)) 0 Try.prog (BPost J Jx W w₂ Z pre x) a₁ w₂) (fun _ _ _ => False)) { tmps := (a.tmps.setIfInBounds ps0 v).setIfInBounds ps1 e, defers := [] } W)
    (hdone : ∀ W Z, J (derAll b) W Z → W.heap[w.heap.size]? = some (.deferred (some [])) → Q .normal { a with defers := markOf w.heap.size :: a.defers } W)
    (hstop : ∀ cd pre W Z, pre <+: derAll b → Jx cd pre W Z → (∀ W', OnS (· ≠ w.heap.size + 1) W W' → W'.heap[w.heap.size]? = some (.deferred (some [])) → cd.wpIn Fence.wide 0 Try.prog Q { a with defers := markOf w.heap.size :: a.defers } W')) :
    (Code.rangeFunc g #[ps0, ps1] assign body).wpIn Fence.wide 0 Try.prog Q a w := by
  refine wpIn_rangeFunc fun fn _ => ?_
  obtain ⟨w2, hw2⟩ : ∃ w2, w2 = (w.alloc (.deferred (some []))).alloc (.loop { state := .ready, pending := none, fn := fn, tmps := a.tmps, params := #[ps0, ps1], assign := assign, body := body, defers := w.heap.size }) := ⟨_, rfl⟩
  refine ⟨w.heap.size + 1, [markOf w.heap.size], w2, { target := .fn (.func 26) #[.pointer (some ⟨bb, 0, none⟩)], args := #[.func (.yield (w.heap.size + 1)) #[] #[]] }, w2, 26, #[.func (.yield (w.heap.size + 1)) #[] #[], .pointer (some ⟨bb, 0, none⟩)], w2, by rw [hw2]; exact run_enterLoop_outer (P := Try.prog) (w := w) fn a.tmps #[ps0, ps1] assign body, ?_, fun _ _ => trivial, ?_, (fun h => (by cases h)), ?_⟩
  · simp only [resolve, rangeCall, hg]
    simp [Deferred.ofValue, Act.eval]
  · simp [invoke, go_sem]
  have hE : Ext w w2 := hw2 ▸ (OnS.alloc w _).trans (OnS.alloc _ _)
  have hL : w2.heap[w.heap.size + 1]? = some (.loop { state := .ready, pending := none, fn := fn, tmps := a.tmps, params := #[ps0, ps1], assign := assign, body := body, defers := w.heap.size }) := by
    rw [hw2]
    have := World.alloc_heap_new (w.alloc (.deferred (some []))) (.loop { state := .ready, pending := none, fn := fn, tmps := a.tmps, params := #[ps0, ps1], assign := assign, body := body, defers := w.heap.size })
    simpa using this
  have hD : w2.heap[w.heap.size]? = some (.deferred (some [])) := by
    rw [hw2, Below.heap_alloc _ _ _ (by simp)]
    exact World.alloc_heap_new w _
  have hz2 : w2.heap.size = w.heap.size + 2 := by rw [hw2]; simp
  clear hw2
  generalize hr0 : ({ state := .ready, pending := none, fn := fn, tmps := a.tmps, params := #[ps0, ps1], assign := assign, body := body, defers := w.heap.size } : Loop) = r0 at hL
  have hbl := hB.lt
  let I : List Piece → World → Mut → Prop := fun pre W Z' => ∃ Z, (∀ k, Z' k ↔ Z k ∨ k = w.heap.size + 1 ∨ k = w.heap.size) ∧ J pre W Z ∧ ¬ Z bb ∧ ¬ Z w.heap.size ∧ ¬ Z (w.heap.size + 1) ∧ w.heap.size + 2 ≤ W.heap.size ∧
    W.heap[w.heap.size + 1]? = some (.loop r0) ∧ W.heap[w.heap.size]? = some (.deferred (some []))
  let Ix : List Piece → World → Mut → Prop := fun pre W _ => ∃ cd Z, Jx cd pre W Z ∧ False ∨ ∃ cd W0 Z, Jx cd pre W0 Z ∧ OnS (· ≠ w.heap.size + 1) W0 W ∧ W.heap[w.heap.size + 1]? = some (.loop { r0 with state := .done, pending := some cd }) ∧ W.heap[w.heap.size]? = some (.deferred (some []))
  have HA : AllBody (w.heap.size + 1) bb r0 (derAll b) I Ix := by
    refine ⟨by rw [← hr0], by rw [← hr0]; rfl, fun pre W Z' ⟨Z, h⟩ => h.2.2.2.2.2.2.1, ?_, ?_⟩
    · rintro pre W W' Z' hO ⟨Z, h1, h2, h3, h4, h5, h6, h7, h8⟩
      refine ⟨Z, h1, hJ _ _ _ _ (hO.weaken fun k _ hk => hk.1) h2, h3, h4, h5, Nat.le_trans h6 hO.size, ?_, ?_⟩
      · rw [hO.block _ (by omega) (by omega)]; exact h7
      · rw [hO.block _ (by omega) (by omega)]; exact h8
    · rintro pre x W Z' v e hpx ⟨Z, h1, h2, h3, h4, h5, h6, h7, h8⟩ hZ' ⟨A', n', c', rfl, rfl, hsr⟩
      refine roundIn_of_wpIn trivial ?_
      have hb := hbody pre x W Z _ _ hpx h2 (fun k hk => hZ' k ((h1 k).2 (.inl hk))) h3 h4 h5 h6 ⟨A', n', c', rfl, rfl, hsr.weaken (by decide) (fun k _ hk => ⟨fun hz => hk.1 ((h1 k).2 hz), hk.2⟩)⟩
      have hfold : ((r0.params.zip #[Value.agg #[.int .u8 x.1.1, .slice A' n' c'], Value.int .i64 x.2]).foldl (fun tmps (t, a) => tmps.setIfInBounds t a) r0.tmps) = (a.tmps.setIfInBounds ps0 (.agg #[.int .u8 x.1.1, .slice A' n' c'])).setIfInBounds ps1 (.int .i64 x.2) := by
        rw [← hr0]; simp
      rw [hfold, show r0.assign = assign by rw [← hr0], show r0.body = body by rw [← hr0]]
      refine wpIn_mono hb ?_
      rintro ex a₁ w₁ hq
      cases ex with
      | normal =>
        obtain ⟨hO1, hq⟩ := hq
        have hl1 : w₁.heap[w.heap.size + 1]? = some (.loop r0) := (hO1.block _ (by omega) h5).trans h7
        have hlt1 : w.heap.size + 1 < w₁.heap.size := (Array.getElem?_eq_some_iff.1 hl1).1
        refine ⟨_, run_beginRound hl1 (by rw [← hr0]), ?_⟩
        refine wpIn_mono (hq _ (OnS.putObj _ _ _) (putObj_size _ _ _)) ?_
        have hlb := putObj_at w₁ (w.heap.size + 1) (.loop { r0 with state := .busy }) hlt1
        have hD1 : (w₁.putObj (w.heap.size + 1) (.loop { r0 with state := .busy })).heap[w.heap.size]? = some (.deferred (some [])) := by
          rw [(OnS.putObj w₁ (w.heap.size + 1) _).block _ (by omega) (by omega), hO1.block _ (by omega) h4]; exact h8
        have hsz1 := putObj_size w₁ (w.heap.size + 1) (.loop { r0 with state := .busy })
        have hO2 := OnS.putObj w₁ (w.heap.size + 1) (.loop { r0 with state := .busy })
        generalize w₁.putObj (w.heap.size + 1) (.loop { r0 with state := .busy }) = w₂ at *
        have fin : ∀ (W' : World) (jump : Option Code), OnS (fun k => ¬ Z k) w₂ W' → (Instr.endRound (w.heap.size + 1) jump).run Try.prog W' = .ok (.bool jump.isNone) (W'.putObj (w.heap.size + 1) (.loop { r0 with state := if jump.isNone then .ready else .done, pending := jump })) ∧
            w.heap.size + 1 < W'.heap.size ∧ W'.heap[w.heap.size]? = some (.deferred (some [])) ∧ OnS (fun k => ¬ Z' k) W (W'.putObj (w.heap.size + 1) (.loop { r0 with state := if jump.isNone then .ready else .done, pending := jump })) := by
          intro W' jump hO3
          have hl3 : W'.heap[w.heap.size + 1]? = some (.loop { r0 with state := .busy }) := (hO3.block _ (by omega) h5).trans hlb
          have hlt3 := (Array.getElem?_eq_some_iff.1 hl3).1
          refine ⟨by have := run_endRound (P := Try.prog) jump hl3; exact this, hlt3, (hO3.block _ (by omega) h4).trans hD1, ?_⟩
          have q1 : OnS (fun k => ¬ Z' k) W w₁ := hO1.weaken fun k _ hk hz => hk ((h1 k).2 (.inl hz))
          have q2 : OnS (fun k => ¬ Z' k) w₁ w₂ := hO2.weaken fun k _ hk e => hk ((h1 k).2 (.inr (.inl e)))
          have q3 : OnS (fun k => ¬ Z' k) w₂ W' := hO3.weaken fun k _ hk hz => hk ((h1 k).2 (.inl hz))
          exact ((q1.trans q2).trans q3).trans ((OnS.putObj _ _ _).weaken fun k _ hk e => hk ((h1 k).2 (.inr (.inl e))))
        have hlt2 : w.heap.size + 2 ≤ w₂.heap.size := by have := hO1.size; omega
        rintro ex a₂ W' hq
        cases ex with
        | normal =>
          obtain ⟨Zn, hj, hO3, hzn⟩ := hq
          obtain ⟨e1, e2, e3, e4⟩ := fin W' none hO3
          refine ⟨_, _, e1, .inl ⟨rfl, fun k => Zn k ∨ k = w.heap.size + 1 ∨ k = w.heap.size, ⟨Zn, fun k => Iff.rfl, hJ _ _ _ _ ((OnS.putObj _ _ _).weaken fun k _ hk => hk.2) hj, ?_, ?_, ?_, ?_, ?_, ?_⟩, e4, ?_⟩⟩
          · intro hz; rcases (hzn bb hz).2 with h | h; exact h3 h; omega
          · intro hz; rcases (hzn _ hz).2 with h | h; exact h4 h; omega
          · intro hz; rcases (hzn _ hz).2 with h | h; exact h5 h; omega
          · rw [putObj_size]; omega
          · rw [putObj_at _ _ _ e2]; rw [← hr0]; rfl
          · rw [(OnS.putObj W' (w.heap.size + 1) _).block _ (by omega) (by omega)]; exact e3
          · rintro k (hz | rfl | rfl)
            · refine ⟨by rw [putObj_size]; exact (hzn k hz).1, ?_⟩
              rcases (hzn k hz).2 with h | h
              · exact .inl ((h1 k).2 (.inl h))
              · exact .inr h
            · exact ⟨by rw [putObj_size]; exact e2, .inl ((h1 _).2 (.inr (.inl rfl)))⟩
            · exact ⟨by rw [putObj_size]; omega, .inl ((h1 _).2 (.inr (.inr rfl)))⟩
        | ret =>
          obtain ⟨Zn, hj, hO3⟩ := hq
          obtain ⟨e1, e2, e3, e4⟩ := fin W' (some .ret) hO3
          refine ⟨_, _, e1, .inr ⟨rfl, fun _ => False, ⟨.ret, Zn, .inr ⟨.ret, W', Zn, hj, OnS.putObj _ _ _, putObj_at _ _ _ e2, ?_⟩⟩, e4⟩⟩
          rw [(OnS.putObj W' (w.heap.size + 1) _).block _ (by omega) (by omega)]; exact e3
        | exit id =>
          obtain ⟨Zn, hj, hO3⟩ := hq
          obtain ⟨e1, e2, e3, e4⟩ := fin W' (some (.exit id)) hO3
          refine ⟨_, _, e1, .inr ⟨rfl, fun _ => False, ⟨.ret, Zn, .inr ⟨.exit id, W', Zn, hj, OnS.putObj _ _ _, putObj_at _ _ _ e2, ?_⟩⟩, e4⟩⟩
          rw [(OnS.putObj W' (w.heap.size + 1) _).block _ (by omega) (by omega)]; exact e3
        | goto t => exact hq.elim
        | panic ch => exact hq.elim
        | outgrown => exact hq.elim
      | exit id => exact hq.elim
      | goto t => exact hq.elim
      | ret => exact hq.elim
      | panic ch => exact hq.elim
      | outgrown => exact hq.elim
  have hrun := all1 HA w2 (fun k => Z k ∨ k = w.heap.size + 1 ∨ k = w.heap.size) (S := fun k => S k ∧ k < w.heap.size) ((H.weaken (by decide) fun k h1 h2 => ⟨h2, h1⟩).mono (OnS.ext hE)) (hB.to hE trivial)
    (fun k _ hk => ⟨by rintro (h | h | h); exact (hS k hk.2 hk.1).1 h; omega; omega, (hS k hk.2 hk.1).2⟩) (by rintro (h | h | h); exact hZb h; omega; omega) (by rintro k (h | rfl | rfl); have := hZ k h; omega; omega; omega)
    ⟨Z, fun k => Iff.rfl, h0 w2 hE, hZb, fun h => by have := hZ _ h; omega, fun h => by have := hZ _ h; omega, by omega, hL, hD⟩
  refine hrun.mono ?_
  rintro e W' ⟨⟨v, rfl⟩, ⟨Z', Zu, h1, h2, h3, h4, h5, h6, h7, h8⟩ | ⟨pre, Z', hpre, cd, Zu, ⟨_, h⟩ | ⟨cd, W0, Zn, hj, hO, hl, hd⟩⟩⟩
  · refine ⟨_, _, run_endLoop h7 (by rw [← hr0]; simp), ?_⟩
    have : r0.pending = none := by rw [← hr0]
    rw [this]
    simp only
    refine hdone _ Zu (hJ _ _ _ _ ((OnS.putObj _ _ _).weaken fun k _ hk => hk.2) h2) ?_
    rw [(OnS.putObj W' (w.heap.size + 1) _).block _ (by omega) (by omega)]; exact h8
  · exact h.elim
  · refine ⟨_, _, run_endLoop hl (by simp), ?_⟩
    simp only
    have hlt := (Array.getElem?_eq_some_iff.1 hl).1
    refine hstop cd pre W0 Zn hpre hj _ (hO.trans (OnS.putObj _ _ _)) ?_
    rw [(OnS.putObj W' (w.heap.size + 1) _).block _ (by omega) (by omega)]; exact hd
#print axioms range_all
end Go.Proofs.Ytikekdifipacmaa
