import Derived.Test.YtikekdifipacmaaD9
import Derived.Deep.LoopGhost
namespace Go.Proofs.Ytikekdifipacmaa
open Go.RowKit

theorem listOf_ok (pre : List (Int × List Int)) (l : List Piece) : (listOf (pre.map (fun x => (x, (0 : Int))) ++ l)) = if (listOf l).2 = 0 then (pre ++ (listOf l).1, 0) else listOf l := by
  have h1 : (pre.map (fun x => (x, (0 : Int)))).find? (fun x => x.2 != 0) = none := by simp
  unfold listOf
  rw [List.find?_append, h1, Option.none_or]
  cases h : l.find? (fun x => x.2 != 0) with
  | none => simp [Function.comp_def]
  | some x =>
    have := List.find?_some h
    simp at this
    simp [this]

set_option maxHeartbeats 1000000 in
theorem reflist_any {S : Nat → Prop} {A : Option Addr} {n c : Nat} {b : List Int} (w : World) (H : SR S w tU8 A n c b) :
    Calls Try.prog 15 #[.slice A n c] w fun e w' => ∃ A' n' c', e = .returned (.tuple #[.slice A' n' c', .int .i64 (listOf (derAll b)).2]) ∧ Ext w w' ∧ SR (fun _ => True) w' tTlv A' n' c' (listOf (derAll b)).1 := by
  go_enter Try.func15, Try.ntmps15
  repeat' go_step
  go_loopg [0, 4] b.length (fun k v0 v4 wr => ∃ (pre : List (Int × List Int)) (rest : List Int) (A1 : Option Addr) (n1 c1 : Nat), v0 = .slice A1 n1 c1 ∧ SR (· < w.heap.size) wr tU8 A1 n1 c1 rest ∧ rest.length = k ∧ Ext w wr ∧
    derAll b = pre.map (fun x => (x, (0 : Int))) ++ derAll rest ∧ OwnR (fun k => some k ≠ v4.ownBlock) wr w.heap.size 28 tTlv v4 pre)
  case atStart => exact ⟨[], b, A, n, c, rfl, H.weaken (by decide) (fun k hk _ => hk), rfl, (OnS.refl _ w : Ext w w), by simp, OwnR.nil _ _ _ _ _⟩
  case round =>
    obtain ⟨pre, rest, A1, n1, c1, rfl, hr, hk, hE, hd, hO⟩ := hrel
    have hl := hr.len
    by_cases h0 : 0 < n1
    · repeat' go_step
      refine (refRead_any wr hr).mono ?_
      rintro _ w2 ⟨_, rfl, hE2, A2, n2, c2, A3, n3, c3, rfl, h2, h3⟩
      generalize hq : derRead rest = q at h2 h3 ⊢
      obtain ⟨t, bd, rs, er⟩ := q
      simp only at h2 h3 ⊢
      by_cases hx : er = 0
      · have hx' : (er != 0) = false := by rw [bne_eq_false_iff_eq]; exact hx
        have HX := Lib.hid hx
        have HQ := Lib.hid hq
        clear hx hq
        generalize hw3 : World.alloc w2 (.cells #[.int .u8 t, .slice A2 n2 c2] 28) = w3
        generalize hw4 : World.alloc w3 (.cells #[.int .u8 t, .slice A2 n2 c2] 28) = w4
        have hE3 : Ext w2 w3 := hw3 ▸ OnS.alloc _ _
        have hE4 : Ext w3 w4 := hw4 ▸ OnS.alloc _ _
        have kb : Bx w4 w3.heap.size 28 [.int .u8 t, .slice A2 n2 c2] := hw4 ▸ Bx.new w3 _ _
        have hb2 := kb.lt
        have hz3 : w3.heap.size = w2.heap.size + 1 := hw3 ▸ World.size_alloc _ _
        have hz4 : w4.heap.size = w3.heap.size + 1 := hw4 ▸ World.size_alloc _ _
        have hzE := hE.size
        have hz2 := hE2.size
        have hO2 := (hO.ext hE2)
        have hOl := hO2.lt
        have hO3 := ((hO2.weaken (S' := fun k => some k ≠ u4.ownBlock ∧ k ≤ w3.heap.size) (fun k hk h => ⟨h, by omega⟩)).ext hE3).ext hE4
        have hHS : SR (fun k => some k ≠ u4.ownBlock ∧ k ≤ w3.heap.size) w4 tTlv (some ⟨w3.heap.size, 0, none⟩) 1 1 [(t, bd)] :=
          SR.ofBx kb (Encs.single (T := tTlv) ⟨A2, n2, c2, rfl, ((h2.weaken (by decide) (fun k _ hk => ⟨fun e => by have := hOl k e.symm; omega, by omega⟩)).mono (OnS.ext hE3)).mono (OnS.ext hE4)⟩) ⟨fun e => by have := hOl _ e.symm; omega, by omega⟩ 1 rfl (by simp [tTlv]) (by omega)
        have hpl : pre.length ≤ 4096 := by
          have := derAll_len b
          rw [hd] at this; simp at this; omega
        rw [hz3] at hO3 hHS hb2
        clear kb hE3 hE4
        subst hw4
        subst hw3
        have hb3 : w.heap.size ≤ ((w2.alloc (.cells #[.int .u8 t, .slice A2 n2 c2] 28)).alloc (.cells #[.int .u8 t, .slice A2 n2 c2] 28)).heap.size := by omega
        clear hz3 hz4 hb2
        repeat' (first | (refine wl_append rfl hO3 hHS (fun _ h => h) Try.underlying36 Try.info28 rfl (by decide) rfl rfl rfl ?_ ?_ ?_ ?_ ?_) | go_step )
        · exact hb3
        · simp [tTlv]; omega
        · simp; omega
        · exact fun k hk e => hk.1 e
        · intro v' w5 hHO5 hg hat hnil
          repeat' go_step
          have HC := derAll_cons rest (by rintro rfl; simp at hl; omega)
          have HM := derRead_shorter rest
          rw [HQ.out] at HC HM
          have hr0 : er = 0 := HX.out
          subst hr0
          simp only [if_true] at HC HM
          have hlen := HM trivial
          have hO5 : OnS (· < w.heap.size) w2 w5 := OnS.since (OnS.ext ((OnS.alloc w2 (.cells #[.int .u8 t, .slice A2 n2 c2] 28)).trans (OnS.alloc _ (.cells #[.int .u8 t, .slice A2 n2 c2] 28)))) (OnS.grown (S := (· < w.heap.size)) hg (fun k hk e => by have := hOl k e.symm; omega)) (fun i _ h => h)
          have hd' : derAll b = (pre ++ [(t, bd)]).map (fun x => (x, (0 : Int))) ++ derAll rs := by rw [hd, HC]; simp
          go_roundg rs.length
          case rel =>
            refine ⟨pre ++ [(t, bd)], rs, A3, n3, c3, rfl, h3.mono hO5, rfl, OnS.since (hE.trans hE2) hO5 (fun i hi _ => hi), hd', hHO5.weaken (fun k hk h e => ?_)⟩
            rcases hat with h1 | h1
            · exact h.1 (e.trans h1)
            · rw [h1] at e
              simp at e
              have := h.2
              omega
          case measure => omega
      · have hx' : (er != 0) = true := by rw [bne_iff_ne]; exact hx
        have HX := Lib.hid hx
        have HQ := Lib.hid hq
        clear hx hq
        repeat' go_step
        go_ret2
        have HC := derAll_cons rest (by rintro rfl; simp at hl; omega)
        rw [HQ.out] at HC
        simp only [if_neg HX.out] at HC
        rw [HC] at hd
        rw [hd, listOf_ok]
        have h8 : listOf [((t, bd), er)] = ([], er) := by simp [listOf, HX.out]
        rw [h8, if_neg HX.out]
        exact ⟨_, _, _, rfl, (hE.trans hE2).trans (OnS.alloc _ _), SR.nils _ _ _⟩
    · repeat' go_step
      go_ret2
      obtain rfl : rest = [] := List.eq_nil_of_length_eq_zero (by omega)
      rw [hd, derAll_nil, listOf_ok]
      simp only [listOf]
      have hpl : pre.length ≤ 4096 := by
        have := derAll_len b
        rw [hd] at this; simp at this; omega
      obtain ⟨A9, c9, hv9, hs9⟩ := hO.read (S' := fun _ => True) (fun _ _ => trivial) (fun _ _ _ => trivial) (by simp [tTlv]; omega) (by omega)
      subst hv9
      exact ⟨_, _, _, rfl, hE, by simpa using hs9⟩
end Go.Proofs.Ytikekdifipacmaa
