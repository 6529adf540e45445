/- DerJoins walked. -/
import Derived.Test.YtikekdifipacmaaD28
import Derived.Test.YtikekdifipacmaaD11
import Derived.Test.YtikekdifipacmaaK12
import Derived.Deep.LoopGhost
namespace Go.Proofs.Ytikekdifipacmaa
open Go.RowKit

/-- A piece as it is written. -/
def fixT (x : Int × List Int) : Int × List Int := (if x.1 % 32 = 31 then x.1 - 1 else x.1, x.2)

theorem joined_len : ∀ (l : List (Int × List Int)) (m : Nat), m < 256 → (∀ x ∈ l, x.2.length ≤ m) → (joined l).length ≤ l.length * (m + 4)
  | [], _, _, _ => by simp [joined]
  | x :: l, m, hm, h => by
    have h1 := joined_len l m hm fun y hy => h y (List.mem_cons_of_mem _ hy)
    have h2 := h x (List.mem_cons_self ..)
    rw [joined_cons, List.length_append, List.length_cons, Nat.add_mul]
    have : (wr x.1 x.2).length ≤ m + 4 := by
      unfold wr
      split <;> (try split) <;> simp <;> omega
    omega
/-- The statement of two appends, half done. -/
structure JInv (w0 : World) (base : Nat) (u v cv pv : Value) (xs cs : List Int) (ws : List (Int × List Int)) (p : Int × List Int) (pcs : List Value) (D : Nat → Bool) (V : Nat → Value) (w : World) : Prop where
  two : Two tU8 tTlv (· < base) w0 base 5 28 u v xs cs ws p pcs D V w
  v0 : D 0 = true → V 0 = u
  v1 : D 1 = true → V 1 = cv
  v3 : D 3 = true → V 3 = v
  v4 : D 4 = true → V 4 = pv
  v7 : D 7 = true → D 2 = true ∧ V 7 = V 2
  v8 : D 8 = true → D 6 = true ∧ V 8 = V 6
theorem JInv.plain {w0 : World} {base : Nat} {u v cv pv : Value} {xs cs : List Int} {ws : List (Int × List Int)} {p : Int × List Int} {pcs : List Value} {D : Nat → Bool} {V : Nat → Value} {w w' : World} (h : JInv w0 base u v cv pv xs cs ws p pcs D V w) (i : Nat) (x : Value)
    (ht : Two tU8 tTlv (· < base) w0 base 5 28 u v xs cs ws p pcs (fun j => if i = j then true else D j) (fun j => if i = j then x else V j) w')
    (g0 : i = 0 → x = u) (g1 : i = 1 → x = cv) (g3 : i = 3 → x = v) (g4 : i = 4 → x = pv) (g7 : i = 7 → D 2 = true ∧ x = V 2) (g8 : i = 8 → D 6 = true ∧ x = V 6) (hD : D i = false) :
    JInv w0 base u v cv pv xs cs ws p pcs (fun j => if i = j then true else D j) (fun j => if i = j then x else V j) w' := by
  obtain ⟨_, a0, a1, a3, a4, a7, a8⟩ := h
  refine ⟨ht, ?_, ?_, ?_, ?_, ?_, ?_⟩
  · by_cases e : i = 0
    · simp [e, g0 e]
    · simpa [e] using a0
  · by_cases e : i = 1
    · simp [e, g1 e]
    · simpa [e] using a1
  · by_cases e : i = 3
    · simp [e, g3 e]
    · simpa [e] using a3
  · by_cases e : i = 4
    · simp [e, g4 e]
    · simpa [e] using a4
  · by_cases e : i = 7
    · subst e; simpa using g7 rfl
    · by_cases e2 : i = 2
      · subst e2
        intro h7
        have := a7 (by simpa using h7)
        rw [hD] at this
        cases this.1
      · simpa [e, e2] using a7
  · by_cases e : i = 8
    · subst e; simpa using g8 rfl
    · by_cases e2 : i = 6
      · subst e2
        intro h8
        have := a8 (by simpa using h8)
        rw [hD] at this
        cases this.1
      · simpa [e, e2] using a8

set_option maxRecDepth 100000 in
set_option maxHeartbeats 8000000 in
theorem joins_any {A : Option Addr} {n c : Nat} {l : List (Int × List Int)} (w : World) (H : SR (fun _ => True) w tTlv A n c l) (hr : ∀ x ∈ l, 0 ≤ x.1 ∧ x.1 ≤ 255) :
    Calls Try.prog 6 #[.slice A n c] w fun e w' => e = .returned (.bool true) ∧ Ext w w' := by
  have hl := H.len
  have H0 := H.weaken (S' := (· < w.heap.size)) (by decide) (fun k hk _ => hk)
  go_enter Try.func6, Try.ntmps6
  repeat' (first | go_values | go_skip | go_guarded | go_step)
  refine (awake_any w).mono ?_
  rintro e w1 ⟨rfl, hE1⟩
  dsimp only
  repeat' (first | go_values | go_skip | go_guarded | go_step)
  go_loopg [3, 4, 19] n (fun k vb vw vi wr => ∃ j : Nat, j + k = n ∧ j ≤ 21 ∧ vi = .int .i64 j ∧ Ext w wr ∧ OwnR (fun _ => False) wr w.heap.size 5 tU8 vb (joined ((l.take j).map fixT)) ∧ OwnR (· < w.heap.size) wr w.heap.size 28 tTlv vw ((l.take j).map fixT) ∧
    (∀ b, vb.ownBlock = some b → vw.ownBlock ≠ some b) ∧ (∀ x ∈ l.take j, x.2.length ≤ 150))
  case atStart => exact ⟨0, by omega, by omega, rfl, hE1, OwnR.nil _ _ _ _ _, OwnR.nil _ _ _ _ _, fun b h => (by cases h), by simp⟩
  case round =>
    obtain ⟨j, hj, hj21, rfl, hE2, hOb, hOw, hap, hsm⟩ := hrel
    by_cases hjn : j < n
    · obtain ⟨pb, po, A', n', c', x, hx, hix, hpb, hc0, hc1, hxs⟩ := (H0.mono (OnS.ext hE2)).idxTlv j j rfl hjn
      obtain ⟨t, bd⟩ := x
      have htr := hr (t, bd) (List.mem_of_getElem? hx)
      simp only at htr hc0 hc1 hxs
      obtain ⟨ht0, ht1⟩ := htr
      have hbl := hxs.len
      by_cases h20 : 20 < j
      · have hd : decide (20 < (j : Int)) = true := by simp; omega
        repeat' (first | go_values | go_skip | go_guarded | go_step)
        go_ret
        exact ⟨rfl, hE2.trans (OnS.alloc _ _)⟩
      · have hd : decide (20 < (j : Int)) = false := by simp; omega
        by_cases h150 : 150 < n'
        · have hd2 : decide (150 < (n' : Int)) = true := by simp; omega
          repeat' (first | go_values | go_skip | go_guarded | go_step)
          go_ret
          exact ⟨rfl, hE2.trans (OnS.alloc _ _)⟩
        · have hd2 : decide (150 < (n' : Int)) = false := by simp; omega
          obtain ⟨t', ht'⟩ : ∃ t', (fixT (t, bd)).1 = t' := ⟨_, rfl⟩
          have htf : 0 ≤ t' ∧ t' ≤ 255 ∧ t' % 32 ≠ 31 := by
            rw [← ht']; unfold fixT; simp only; split <;> omega
          obtain ⟨hf0, hf1, hf2⟩ := htf
          have step : ∀ w2, w2 = wr.alloc (.cells #[.int .u8 t', .slice A' n' c'] 28) → True := fun _ _ => trivial
          clear step
          by_cases h31 : t % 32 = 31
          case' pos =>
            have hb31 : (t % 32 == 31) = true := by simpa using h31
            have e : t - 1 = t' := by rw [← ht']; unfold fixT; simp only; rw [if_pos h31]
            repeat' (first | go_values | go_skip | go_guarded | go_step)
          case' neg =>
            have hb31 : (t % 32 == 31) = false := by simpa using h31
            have e : t = t' := by rw [← ht']; unfold fixT; simp only; rw [if_neg h31]
            repeat' (first | go_values | go_skip | go_guarded | go_step)
          all_goals
            clear hb31 e hd hd2 h31
            generalize hw2 : World.alloc wr _ = w2
            have hE3 : Ext wr w2 := hw2 ▸ OnS.alloc _ _
            have hB6 : Bx w2 wr.heap.size 28 [.int .u8 t', .slice A' n' c'] := hw2 ▸ Bx.new wr _ 28
            clear hw2
            have hz2 := hB6.lt
            have hzr := hE2.size
            refine (write_any t' w2 (hxs.mono (OnS.ext hE3)) hf0 hf1 hf2 (by omega)).mono ?_
            rintro e w3 ⟨Ac, cc, rfl, hE4, hRc⟩
            dsimp only
            have hwl : (Go.Proofs.Ytikekdifipacmaa.wr t' bd).length ≤ n' + 4 := by
              rw [← hbl]
              unfold Go.Proofs.Ytikekdifipacmaa.wr
              split <;> (try split) <;> simp <;> omega
            obtain ⟨cs, hcs⟩ : ∃ cs, Go.Proofs.Ytikekdifipacmaa.wr t' bd = cs := ⟨_, rfl⟩
            rw [hcs] at hRc hwl ⊢
            obtain ⟨N, hN⟩ : ∃ N, cs.length = N := ⟨_, rfl⟩
            rw [hN] at hRc hwl ⊢
            have HCS := Lib.hid (And.intro hcs hN)
            clear hcs hN
            have hE24 := hE3.trans hE4
            repeat' (first | go_values | go_skip | go_guarded | go_step)
            have hB7 := hB6.to hE4 trivial
            have q0 := hB7.cell 0
            have q1 := hB7.cell 1
            simp only [List.getElem?_cons_zero, List.getElem?_cons_succ] at q0 q1
            have hltu : ∀ b, u3.ownBlock = some b → w.heap.size ≤ b ∧ b < wr.heap.size := hOb.lt
            have hltv : ∀ b, u4.ownBlock = some b → w.heap.size ≤ b ∧ b < wr.heap.size := hOw.lt
            have hz3 := hE4.size
            have hpl : ((l.take j).map fixT).length ≤ 21 := by simp; omega
            have hjl := joined_len ((l.take j).map fixT) 150 (by omega) (by
              intro y hy
              obtain ⟨x, hx, rfl⟩ := List.mem_map.1 hy
              exact hsm x hx)
            have hjl2 : (joined ((l.take j).map fixT)).length ≤ 21 * 154 := Nat.le_trans hjl (Nat.mul_le_mul_right _ hpl)
            have hmode : ∀ w4, OnS (fun k => some k ≠ u3.ownBlock ∧ some k ≠ u4.ownBlock) w3 w4 → SR (fun k => some k ≠ u3.ownBlock ∧ some k ≠ u4.ownBlock) w4 tU8 Ac N cc cs := fun w4 h => (hRc.weaken (by decide) (fun k _ hk => ⟨fun e => by have := (hltu k e.symm).2; omega, fun e => by have := (hltv k e.symm).2; omega⟩)).mono h
            have hbody : ∀ w4, OnS (fun k => some k ≠ u3.ownBlock ∧ some k ≠ u4.ownBlock) w3 w4 → SR (· < w.heap.size) w4 tU8 A' n' c' bd := fun w4 h => (hxs.mono (OnS.ext hE24)).mono (h.weaken (fun k _ hk => ⟨fun e => by have := (hltu k e.symm).1; omega, fun e => by have := (hltv k e.symm).1; omega⟩))
            refine region_inv (by kernel_rfl) (JInv w3 w.heap.size u3 u4 (.slice Ac N cc) (.agg #[.int .u8 t', .slice A' n' c']) (joined ((l.take j).map fixT)) cs ((l.take j).map fixT) (t', bd) [.int .u8 t', .slice A' n' c']) (by kernel_rfl) ?_ ?_ ?_
            · intro V
              exact ⟨⟨OnS.ext (OnS.drew w3), (hOb.ext hE24).ext (OnS.drew w3), (hOw.ext hE24).ext (OnS.drew w3), hap, (fun b h => .inl h), (fun b h => .inl h), (fun h => by cases h)⟩, (fun h => by cases h), (fun h => by cases h), (fun h => by cases h), (fun h => by cases h), (fun h => by cases h), (fun h => by cases h)⟩
            · intro i o D V w4 ho hDi hdep hJ ρ hρ
              have hi : i < 9 := (Array.getElem?_eq_some_iff.1 ho).1
              have hOn := hJ.two.on
              have hz4 := hOn.size
              have hb4 : w.heap.size ≤ w4.heap.size := by omega
              have hN2 : N ≤ 154 := by omega
              rcases (by omega : i = 0 ∨ i = 1 ∨ i = 2 ∨ i = 3 ∨ i = 4 ∨ i = 5 ∨ i = 6 ∨ i = 7 ∨ i = 8) with rfl | rfl | rfl | rfl | rfl | rfl | rfl | rfl | rfl
              all_goals cases ho
              all_goals simp [Region.binds] at hdep
              · have e0 : ρ (.tmp 3) = u3 := hρ (.tmp 3) (by simp [Op.operands])
                exact runsI_val (v := u3) (w' := w4) (by simp [execOp, e0]) (hJ.plain 0 u3 (hJ.two.plain 0 (by decide) (by decide) (by decide) u3) (fun _ => rfl) (fun h => absurd h (by decide)) (fun h => absurd h (by decide)) (fun h => absurd h (by decide)) (fun h => absurd h (by decide)) (fun h => absurd h (by decide)) hDi)
              · have e0 : ρ (.tmp 7) = .slice Ac N cc := hρ (.tmp 7) (by simp [Op.operands])
                exact runsI_val (v := .slice Ac N cc) (w' := w4) (by simp [execOp, e0]) (hJ.plain 1 (.slice Ac N cc) (hJ.two.plain 1 (by decide) (by decide) (by decide) _) (fun h => absurd h (by decide)) (fun _ => rfl) (fun h => absurd h (by decide)) (fun h => absurd h (by decide)) (fun h => absurd h (by decide)) (fun h => absurd h (by decide)) hDi)
              · have e0 : ρ (.tmp 47) = u3 := (hρ (.tmp 47) (by simp [Op.operands, Call.operands])).trans (hJ.v0 hdep.1)
                have e1 : ρ (.tmp 48) = .slice Ac N cc := (hρ (.tmp 48) (by simp [Op.operands, Call.operands])).trans (hJ.v1 hdep.2)
                have HO : OwnR (fun _ => False) w4 w.heap.size 5 tU8 u3 (joined ((l.take j).map fixT)) := by simpa [hDi] using hJ.two.ra
                exact runsI_append rfl HO (hmode w4 hOn) (fun _ h => h.flat) Try.underlying25 Try.info5 rfl (by decide) e0 e1 hb4 (by simp only [tInt]; omega) (by omega) (fun _ h => h.elim) (fun v' w' h1 h2 h3 => (hJ.plain 2 v' (hJ.two.first hDi (fun _ h => h) h1 h2 h3) (fun h => absurd h (by decide)) (fun h => absurd h (by decide)) (fun h => absurd h (by decide)) (fun h => absurd h (by decide)) (fun h => absurd h (by decide)) (fun h => absurd h (by decide)) hDi))
              · have e0 : ρ (.tmp 4) = u4 := hρ (.tmp 4) (by simp [Op.operands])
                exact runsI_val (v := u4) (w' := w4) (by simp [execOp, e0]) (hJ.plain 3 u4 (hJ.two.plain 3 (by decide) (by decide) (by decide) _) (fun h => absurd h (by decide)) (fun h => absurd h (by decide)) (fun _ => rfl) (fun h => absurd h (by decide)) (fun h => absurd h (by decide)) (fun h => absurd h (by decide)) hDi)
              · have e0 : ρ (.tmp 6) = .pointer (some ⟨wr.heap.size, 0, none⟩) := hρ (.tmp 6) (by simp [Op.operands])
                have p0 := hOn.cell q0 ⟨fun e => by have := (hltu _ e.symm).2; simp only at this; omega, fun e => by have := (hltv _ e.symm).2; simp only at this; omega⟩
                have p1 := hOn.cell q1 ⟨fun e => by have := (hltu _ e.symm).2; simp only at this; omega, fun e => by have := (hltv _ e.symm).2; simp only at this; omega⟩
                exact runsI_val (v := .agg #[.int .u8 t', .slice A' n' c']) (w' := w4) (by clear hρ; go_simp) (hJ.plain 4 (.agg #[.int .u8 t', .slice A' n' c']) (hJ.two.plain 4 (by decide) (by decide) (by decide) _) (fun h => absurd h (by decide)) (fun h => absurd h (by decide)) (fun h => absurd h (by decide)) (fun _ => rfl) (fun h => absurd h (by decide)) (fun h => absurd h (by decide)) hDi)
              · have e0 : ρ (.tmp 51) = .agg #[.int .u8 t', .slice A' n' c'] := (hρ (.tmp 51) (by simp [Op.operands])).trans (hJ.v4 hdep)
                exact runsI_val (v := .slice (some ⟨w4.heap.size, 0, none⟩) 1 1) (w' := w4.alloc (.cells #[.int .u8 t', .slice A' n' c'] 28)) (by clear hρ; go_simp) (hJ.plain 5 _ hJ.two.laid (fun h => absurd h (by decide)) (fun h => absurd h (by decide)) (fun h => absurd h (by decide)) (fun h => absurd h (by decide)) (fun h => absurd h (by decide)) (fun h => absurd h (by decide)) hDi)
              · have e0 : ρ (.tmp 50) = u4 := (hρ (.tmp 50) (by simp [Op.operands, Call.operands])).trans (hJ.v3 hdep.1)
                obtain ⟨g, hg1, hg2, _⟩ := hJ.two.lit hdep.2.1
                have e1 : ρ (.tmp 52) = .slice (some ⟨g, 0, none⟩) 1 1 := (hρ (.tmp 52) (by simp [Op.operands, Call.operands])).trans hg1
                have HO : OwnR (· < w.heap.size) w4 w.heap.size 28 tTlv u4 ((l.take j).map fixT) := by simpa [hDi] using hJ.two.rb
                exact runsI_append_bx (T := tTlv) (m := 1) rfl HO hg2 (Encs.single (T := tTlv) (x := (t', bd)) ⟨A', n', c', rfl, hbody w4 hOn⟩) rfl Try.underlying36 Try.info28 rfl (by decide) e0 e1 hb4 (by simp only [tTlv]; omega) (by omega) (fun k hk e => by have := (hltv k e.symm).1; omega) (fun v' w' h1 h2 h3 => (hJ.plain 6 v' (hJ.two.second hDi h1 h2 h3) (fun h => absurd h (by decide)) (fun h => absurd h (by decide)) (fun h => absurd h (by decide)) (fun h => absurd h (by decide)) (fun h => absurd h (by decide)) (fun h => absurd h (by decide)) hDi))
              · have e0 : ρ (.tmp 49) = V 2 := hρ (.tmp 49) (by simp [Op.operands])
                exact runsI_val (v := V 2) (w' := w4) (by simp [execOp, e0]) (hJ.plain 7 (V 2) (hJ.two.plain 7 (by decide) (by decide) (by decide) _) (fun h => absurd h (by decide)) (fun h => absurd h (by decide)) (fun h => absurd h (by decide)) (fun h => absurd h (by decide)) (fun _ => ⟨hdep.1, rfl⟩) (fun h => absurd h (by decide)) hDi)
              · have e0 : ρ (.tmp 53) = V 6 := hρ (.tmp 53) (by simp [Op.operands])
                exact runsI_val (v := V 6) (w' := w4) (by simp [execOp, e0]) (hJ.plain 8 (V 6) (hJ.two.plain 8 (by decide) (by decide) (by decide) _) (fun h => absurd h (by decide)) (fun h => absurd h (by decide)) (fun h => absurd h (by decide)) (fun h => absurd h (by decide)) (fun h => absurd h (by decide)) (fun _ => ⟨hdep.1, rfl⟩) hDi)
            · intro D V w4 hD hJ
              have h7 := (hJ.v7 (hD 7 (by decide))).2
              have h8 := (hJ.v8 (hD 8 (by decide))).2
              have hA := hJ.two.ra
              have hB := hJ.two.rb
              have hP := hJ.two.ap
              have hOn := hJ.two.on
              simp only [hD 2 (by decide), hD 6 (by decide), if_true] at hA hB hP
              obtain ⟨vb, hvb⟩ : ∃ v, V 2 = v := ⟨_, rfl⟩
              obtain ⟨vw, hvw⟩ : ∃ v, V 6 = v := ⟨_, rfl⟩
              rw [hvb] at hA hP h7
              rw [hvw] at hB hP h8
              have hEw : Ext w w4 := OnS.since (hE2.trans hE24) hOn (fun k hk _ => ⟨fun e => by have := (hltu k e.symm).1; omega, fun e => by have := (hltv k e.symm).1; omega⟩)
              have htake : (l.take (j + 1)).map fixT = (l.take j).map fixT ++ [(t', bd)] := by
                rw [List.take_add_one, hx, List.map_append]
                simp only [Option.toList_some, List.map_cons, List.map_nil]
                congr 2
                rw [← ht']
                rfl
              have hjoin : joined ((l.take (j + 1)).map fixT) = joined ((l.take j).map fixT) ++ cs := by
                rw [htake, joined_append, ← HCS.out.1]
                simp [joined]
              simp only [putL, Act.put, List.setIfInBounds_toArray, List.set_cons_zero, List.set_cons_succ, h7, h8, hvb, hvw]
              have ht0 : l.take (j + 1) = l.take j ++ [(t, bd)] := by rw [List.take_add_one, hx]; rfl
              have HT0 := Lib.hid ht0
              have HT := Lib.hid (And.intro htake hjoin)
              clear ht0
              clear hJ hD h7 h8 hvb hvw htake hjoin q0 q1 hx
              repeat' (first | go_values | go_skip | go_guarded | go_step)
              go_roundg (n - (j + 1))
              case rel =>
                refine ⟨j + 1, by omega, by omega, by simp, hEw, ?_, ?_, hP, ?_⟩
                · rw [HT.out.2]; exact hA
                · rw [HT.out.1]; exact hB
                · intro y hy
                  rw [HT0.out] at hy
                  rcases List.mem_append.1 hy with h | h
                  · exact hsm y h
                  · simp only [List.mem_singleton] at h
                    subst h
                    simp only
                    omega
              case measure => omega
    · obtain rfl : j = n := by omega
      have htk : l.take j = l := List.take_of_length_le (by omega)
      rw [htk] at hOb hOw hsm
      obtain ⟨ps, hps⟩ : ∃ ps, l.map fixT = ps := ⟨_, rfl⟩
      rw [hps] at hOb hOw
      have hok : ∀ x ∈ ps, PieceOk x := by
        rw [← hps]
        intro y hy
        obtain ⟨x, hx, rfl⟩ := List.mem_map.1 hy
        have h1 := hr x hx
        have h2 := hsm x hx
        refine ⟨?_, ?_, ?_, by simp only [fixT]; omega⟩ <;> (unfold fixT; simp only; split <;> omega)
      have hpl : ps.length ≤ 21 := by rw [← hps]; simp; omega
      have hjl : (joined ps).length ≤ 21 * 154 := Nat.le_trans (joined_len ps 150 (by omega) (by
        rw [← hps]
        intro y hy
        obtain ⟨x, hx, rfl⟩ := List.mem_map.1 hy
        exact hsm x hx)) (Nat.mul_le_mul_right _ hpl)
      obtain ⟨Ab, cb, rfl, hRb⟩ := hOb.read (S' := fun _ => True) (fun _ _ => trivial) (fun _ _ h => h.elim) (by simp only [tInt]; omega) (by omega)
      obtain ⟨Aw, cw, rfl, hRw⟩ := hOw.read (S' := fun _ => True) (fun _ _ => trivial) (fun _ _ _ => trivial) (by simp only [tTlv]; omega) (by omega)
      have hL := listOf_joined ps hok (by omega)
      have hS := derSeq_joined ps hok (by omega)
      obtain ⟨B, hB⟩ : ∃ B, joined ps = B := ⟨_, rfl⟩
      rw [hB] at hRb hL hS hjl ⊢
      obtain ⟨nb, hnb⟩ : ∃ nb, B.length = nb := ⟨_, rfl⟩
      obtain ⟨nw, hnw⟩ : ∃ nw, ps.length = nw := ⟨_, rfl⟩
      rw [hnb] at hRb hjl ⊢
      rw [hnw] at hRw ⊢
      have hd4 : decide (4000 < (nb : Int)) = false := by simp; omega
      clear hOb hOw htk hps hnb hnw hok
      repeat' (first | go_values | go_skip | go_guarded | go_step)
      refine (list_any wr hRb).mono ?_
      rw [hL]
      rintro e w2 ⟨A1, n1, c1, rfl, hE3, hR1⟩
      dsimp only
      repeat' (first | go_values | go_skip | go_guarded | go_step)
      refine (write_any 48 w2 (hRb.mono (OnS.ext hE3)) (by decide) (by decide) (by decide) (by omega)).mono ?_
      rintro e w3 ⟨A2, c2, rfl, hE4, hR2⟩
      dsimp only
      obtain ⟨nz, hnz⟩ : ∃ nz, (Go.Proofs.Ytikekdifipacmaa.wr 48 B).length = nz := ⟨_, rfl⟩
      rw [hnz] at hR2 ⊢
      clear hnz
      repeat' (first | go_values | go_skip | go_guarded | go_step)
      refine (seq_any w3 hR2).mono ?_
      rw [hS]
      rintro e w4 ⟨A3, n3, c3, rfl, hE5, hR3⟩
      dsimp only
      have hR1' := hR1.mono (OnS.ext (hE4.trans hE5))
      have hRw' := hRw.mono (OnS.ext (hE3.trans (hE4.trans hE5)))
      simp only at hR1' hR3
      repeat' (first | go_values | go_skip | go_guarded | go_step)
      refine (sameLists_any w4 hR1' hRw').mono ?_
      rintro e w5 ⟨rfl, hE6⟩
      dsimp only
      simp only [beq_self_eq_true]
      repeat' (first | go_values | go_skip | go_guarded | go_step)
      refine (sameLists_any w5 (hR3.mono (OnS.ext hE6)) (hRw'.mono (OnS.ext hE6))).mono ?_
      rintro e w6 ⟨rfl, hE7⟩
      dsimp only
      simp only [beq_self_eq_true]
      repeat' (first | go_values | go_skip | go_guarded | go_step)
      go_ret
      exact ⟨rfl, hE2.trans (hE3.trans (hE4.trans (hE5.trans (hE6.trans hE7))))⟩
end Go.Proofs.Ytikekdifipacmaa
