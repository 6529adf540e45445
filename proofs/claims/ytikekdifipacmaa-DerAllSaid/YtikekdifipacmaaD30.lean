/- DerAll's walk over der.All. -/
import Derived.Test.YtikekdifipacmaaD7
import Derived.Test.YtikekdifipacmaaD10
import Derived.Test.YtikekdifipacmaaD11
import Derived.Test.YtikekdifipacmaaK15
namespace Go.Proofs.Ytikekdifipacmaa
open Go.RowKit
set_option linter.unusedSimpArgs false
attribute [local go_sem] Oper.semAt_some

theorem derRead_err (b : List Int) : (derRead b).2.2.2 ≠ 0 → (derRead b).1 = 0 ∧ (derRead b).2.1 = [] := by
  unfold derRead
  repeat' split
  all_goals (intro h; first | exact ⟨rfl, rfl⟩ | exact absurd rfl h)

theorem six (w : World) (a0 a1 a2 a3 a4 a5 : Value) (t0 t1 t2 t3 t4 t5 : TypeId) : ∃ w', w' = ((((((w.alloc (.cells #[a0] t0)).alloc (.cells #[a1] t1)).alloc (.cells #[a2] t2)).alloc (.cells #[a3] t3)).alloc (.cells #[a4] t4)).alloc (.cells #[a5] t5)) ∧ Ext w w' ∧ w'.heap.size = w.heap.size + 6 ∧
    Bx w' w.heap.size t0 [a0] ∧ Bx w' (w.heap.size + 1) t1 [a1] ∧ Bx w' (w.heap.size + 2) t2 [a2] ∧ Bx w' (w.heap.size + 3) t3 [a3] ∧ Bx w' (w.heap.size + 4) t4 [a4] ∧ Bx w' (w.heap.size + 5) t5 [a5] := by
  obtain ⟨w1, e1⟩ : ∃ w1, w.alloc (.cells #[a0] t0) = w1 := ⟨_, rfl⟩
  obtain ⟨w2, e2⟩ : ∃ w2, w1.alloc (.cells #[a1] t1) = w2 := ⟨_, rfl⟩
  obtain ⟨w3, e3⟩ : ∃ w3, w2.alloc (.cells #[a2] t2) = w3 := ⟨_, rfl⟩
  obtain ⟨w4, e4⟩ : ∃ w4, w3.alloc (.cells #[a3] t3) = w4 := ⟨_, rfl⟩
  obtain ⟨w5, e5⟩ : ∃ w5, w4.alloc (.cells #[a4] t4) = w5 := ⟨_, rfl⟩
  obtain ⟨w6, e6⟩ : ∃ w6, w5.alloc (.cells #[a5] t5) = w6 := ⟨_, rfl⟩
  have z1 : w1.heap.size = w.heap.size + 1 := by rw [← e1]; simp
  have z2 : w2.heap.size = w.heap.size + 2 := by rw [← e2]; simp; omega
  have z3 : w3.heap.size = w.heap.size + 3 := by rw [← e3]; simp; omega
  have z4 : w4.heap.size = w.heap.size + 4 := by rw [← e4]; simp; omega
  have z5 : w5.heap.size = w.heap.size + 5 := by rw [← e5]; simp; omega
  have z6 : w6.heap.size = w.heap.size + 6 := by rw [← e6]; simp; omega
  have E1 : Ext w w1 := e1 ▸ OnS.alloc _ _
  have E2 : Ext w1 w2 := e2 ▸ OnS.alloc _ _
  have E3 : Ext w2 w3 := e3 ▸ OnS.alloc _ _
  have E4 : Ext w3 w4 := e4 ▸ OnS.alloc _ _
  have E5 : Ext w4 w5 := e5 ▸ OnS.alloc _ _
  have E6 : Ext w5 w6 := e6 ▸ OnS.alloc _ _
  have b0 : Bx w1 w.heap.size t0 [a0] := e1 ▸ Bx.new _ _ _
  have b1 : Bx w2 w1.heap.size t1 [a1] := e2 ▸ Bx.new _ _ _
  have b2 : Bx w3 w2.heap.size t2 [a2] := e3 ▸ Bx.new _ _ _
  have b3 : Bx w4 w3.heap.size t3 [a3] := e4 ▸ Bx.new _ _ _
  have b4 : Bx w5 w4.heap.size t4 [a4] := e5 ▸ Bx.new _ _ _
  have b5 : Bx w6 w5.heap.size t5 [a5] := e6 ▸ Bx.new _ _ _
  rw [z1] at b1; rw [z2] at b2; rw [z3] at b3; rw [z4] at b4; rw [z5] at b5
  refine ⟨w6, by rw [e1, e2, e3, e4, e5, e6], E1.trans (E2.trans (E3.trans (E4.trans (E5.trans E6)))), z6, ?_, ?_, ?_, ?_, ?_, b5⟩
  · exact b0.to (E2.trans (E3.trans (E4.trans (E5.trans E6)))) trivial
  · exact b1.to (E3.trans (E4.trans (E5.trans E6))) trivial
  · exact b2.to (E4.trans (E5.trans E6)) trivial
  · exact b3.to (E5.trans E6) trivial
  · exact b4.to E6 trivial

theorem res12 {W : World} {b2 b3 : Nat} {v2 v3 : Value} (h2 : Bx W b2 3 [v2]) (h3 : Bx W b3 4 [v3]) (tmps : Array Value) (e2 : tmps.getD 8 undef = .pointer (some ⟨b2, 0, none⟩)) (e3 : tmps.getD 9 undef = .pointer (some ⟨b3, 0, none⟩)) :
    (results Try.f12 tmps).run Try.prog W = .ok (.tuple #[v2, v3]) W := by
  have c2 := h2.cell 0
  have c3 := h3.cell 0
  simp only [List.getElem?_cons_zero] at c2 c3
  simp [results, Try.results12, go_sem] at e2 e3 ⊢
  simp [e2, e3, go_sem, c2, c3]

set_option maxRecDepth 100000 in
set_option maxHeartbeats 4000000 in
theorem walk_any {S : Nat → Prop} {A B : Option Addr} {n c m d : Nat} {b : List Int} {want : List (Int × List Int)} (code stop : Int) (w : World) (H : SR S w tU8 A n c b) (HW : SR (fun _ => True) w tTlv B m d want)
    (hall : derAll b = want.map (fun x => (x, (0 : Int))) ++ if code = 0 then [] else [((0, []), code)]) :
    Calls Try.prog 12 #[.slice A n c, .slice B m d, .int .i64 code, .int .i64 stop] w fun e w' => e = .returned (.tuple #[.int .i64 (if 1 ≤ stop ∧ stop ≤ (derAll b).length then stop else (derAll b).length), .bool true]) ∧ Ext w w' := by
  refine (callsIn_wide (n := 0)).1 ?_
  refine callsIn_of_wp_marks Try.func12 rfl trivial ?_
  refine (wpIn_wide (n := 0)).2 ?_
  simp only [Try.ntmps12, List.size_toArray, List.length_cons, List.length_nil, Nat.reduceAdd, Nat.reduceSub, Array.replicate_succ, Array.replicate_zero, List.push_toArray, List.append_toArray, List.nil_append, List.cons_append]
  repeat' (first | go_values | go_skip | go_guarded | go_step)
  obtain ⟨w6, hw6, hE6, hz6, b0, b1, b2, b3, b4, b5⟩ := six w (.slice B m d) (.int .i64 code) (.int .i64 stop) (.int .i64 0) (.bool false) (.int .i64 0) 36 3 3 3 4 3
  rw [← hw6]
  simp only [Nat.add_assoc, Nat.reduceAdd]
  clear hw6
  refine (all0 A n c w6).mono ?_
  rintro _ w4 ⟨rfl, hw4⟩
  have hE4 : Ext w6 w4 := hw4 ▸ OnS.alloc _ _
  have b6 : Bx w4 w6.heap.size 25 [.slice A n c] := hw4 ▸ Bx.new w6 _ 25
  have hz : w4.heap.size = w.heap.size + 7 := by rw [hw4]; simp; omega
  have hE := hE6.trans hE4
  rw [hz6] at b6 ⊢
  replace b0 := b0.to hE4 trivial
  replace b1 := b1.to hE4 trivial
  replace b2 := b2.to hE4 trivial
  replace b3 := b3.to hE4 trivial
  replace b4 := b4.to hE4 trivial
  replace b5 := b5.to hE4 trivial
  clear hw4 hE6 hE4 hz6
  dsimp only
  have HZ := Lib.hid hz
  clear hz
  repeat' (first | go_values | go_skip | go_guarded | go_step)
  have hz := HZ.out
  clear HZ
  refine (wpIn_wide (n := 0)).1 ?_
  have HW4 := (HW.weaken (S' := (· < w.heap.size)) (by decide) (fun k hk _ => hk))
  refine range_all (bb := w.heap.size + 6) rfl b6 ((H.weaken (S' := (· < w.heap.size)) (by decide) (fun k hk _ => hk)).mono (OnS.ext hE))
    (fun pre W Z => ¬ (1 ≤ stop ∧ stop ≤ pre.length) ∧ OnS (· < w.heap.size) w W ∧ Bx W w.heap.size 36 [.slice B m d] ∧ Bx W (w.heap.size + 1) 3 [.int .i64 code] ∧ Bx W (w.heap.size + 2) 3 [.int .i64 stop] ∧
      Bx W (w.heap.size + 3) 3 [.int .i64 0] ∧ Bx W (w.heap.size + 4) 4 [.bool false] ∧ Bx W (w.heap.size + 5) 3 [.int .i64 pre.length] ∧ (∀ k, Z k ↔ k = w.heap.size + 5))
    (fun cd pre W Z => cd = .exit 0 ∧ 1 ≤ stop ∧ stop = pre.length ∧ OnS (· < w.heap.size) w W ∧ Bx W (w.heap.size + 3) 3 [.int .i64 0] ∧ Bx W (w.heap.size + 4) 4 [.bool false] ∧ Bx W (w.heap.size + 5) 3 [.int .i64 pre.length])
    (fun k => k = w.heap.size + 5) ?hS (by omega) (fun k hk => by omega) ?hJ ?h0 ?hbody ?hdone ?hstop
  case hS => exact fun k _ hk => ⟨fun hz => by omega, by omega⟩
  case hJ =>
    rintro pre W W' Z hO ⟨h1, h2, c0, c1, c2, c3, c4, c5, h7⟩
    exact ⟨h1, OnS.since h2 hO (fun i hi _ => by omega), c0.to hO (by omega), c1.to hO (by omega), c2.to hO (by omega), c3.to hO (by omega), c4.to hO (by omega), c5.to hO (by omega), h7⟩
  case h0 =>
    intro w' hE'
    exact ⟨by simp; omega, OnS.ext (hE.trans hE'), b0.to hE' trivial, b1.to hE' trivial, b2.to hE' trivial, b3.to hE' trivial, b4.to hE' trivial, b5.to hE' trivial, fun k => Iff.rfl⟩
  case hbody =>
    rintro pre x W Z v e hpx ⟨h1, h2, c0, c1, c2, c3, c4, c5, h7⟩ hZ hzb hzd hzl hsz ⟨A', n', c', rfl, rfl, hsr⟩
    have hB2 := c5.lt
    simp only [List.setIfInBounds_toArray, List.set_cons_zero, List.set_cons_succ]
    repeat' gi_step
    refine ⟨OnS.ext (OnS.alloc W _), fun w2 hO2 hsz2 => ?_⟩
    rw [World.size_alloc] at hsz2
    have hz2 : W.heap.size < w2.heap.size := by omega
    have bt : Bx w2 W.heap.size 28 [.int .u8 x.1.1, .slice A' n' c'] := (Bx.new W [.int .u8 x.1.1, .slice A' n' c'] 28).to hO2 (by omega)
    have hO : OnS (· ≠ w4.heap.size + 1) W w2 := OnS.since (OnS.ext (OnS.alloc W _)) hO2 (fun i _ h => h)
    clear hO2 hsz2
    have k0 := c0.to hO (by omega)
    have k1 := c1.to hO (by omega)
    have k2 := c2.to hO (by omega)
    have k3 := c3.to hO (by omega)
    have k4 := c4.to hO (by omega)
    have k5 := c5.to hO (by omega)
    have ksr := hsr.mono (hO.weaken (fun k _ hk => fun e => hk.1 (.inr (.inl e))))
    have kE : OnS (· < w.heap.size) w w2 := OnS.since h2 hO (fun i hi _ => by omega)
    have hxat : (derAll b)[pre.length]? = some x := by
      obtain ⟨tl, htl⟩ := hpx
      rw [← htl]; simp
    rw [hall] at hxat
    have hwl := HW.len
    clear c0 c1 c2 c3 c4 c5 hsr h2
    have HPX := Lib.hid hpx
    have HH1 := Lib.hid h1
    have HALL := Lib.hid hall
    clear hpx h1 hall
    by_cases hjm : pre.length < m
    · rw [List.getElem?_append_left (by simpa [hwl] using hjm)] at hxat
      obtain ⟨pb, po, A1, n1, c1, y, hy, hix, hpb, hc0, hc1, hc2⟩ := (HW4.mono kE).idxTlv pre.length pre.length rfl hjm
      rw [List.getElem?_map, hy] at hxat
      obtain ⟨t, bd⟩ := y
      simp only [Option.map_some, Option.some.injEq] at hxat
      subst hxat
      simp only at hc0 hc1 hc2 bt ksr ⊢
      have hd : decide ((pre.length : Int) < m) = true := by simp; omega
      have hd' : decide ((m : Int) ≤ pre.length) = false := by simp; omega
      have kt := bt
      repeat' gi_step
      refine region_mgIn (by kernel_rfl) (by kernel_rfl) 43 (by kernel_rfl) (by decide) ?_
      simp only [List.take_succ_cons, List.take_zero, List.drop_succ_cons, List.drop_zero]
      refine mg_val (.int .i64 pre.length) rfl rfl (fun ρ W3 hE3 hh => by have pk50 := (k5.to hE3 trivial).cell 0; simp only [List.getElem?_cons_zero, List.getElem?_cons_succ] at pk50; simp [toldE, lk, Op.operands, Call.operands, Act.eval] at hh; (go_simp) <;> omega) ?_
      refine mg_val (.slice B m d) rfl rfl (fun ρ W3 hE3 hh => by have pk00 := (k0.to hE3 trivial).cell 0; simp only [List.getElem?_cons_zero, List.getElem?_cons_succ] at pk00; simp [toldE, lk, Op.operands, Call.operands, Act.eval] at hh; (go_simp) <;> omega) ?_
      refine mg_val (.int .i64 m) rfl rfl (fun ρ W3 hE3 hh => by simp [toldE, lk, Op.operands, Call.operands, Act.eval] at hh; (go_simp) <;> omega) ?_
      refine mg_val (.bool true) rfl rfl (fun ρ W3 hE3 hh => by simp [toldE, lk, Op.operands, Call.operands, Act.eval] at hh; (go_simp) <;> omega) ?_
      refine mg_val (.bool true) rfl rfl (fun ρ W3 hE3 hh => by simp [toldE, lk, Op.operands, Call.operands, Act.eval] at hh; (go_simp) <;> omega) ?_
      refine mg_onval (.int .i64 0) rfl rfl rfl (fun ρ W3 hE3 hh => by simp [toldE, lk, Op.operands, Call.operands, Act.eval] at hh; (go_simp) <;> omega) ?_
      refine mg_onval (.bool false) rfl rfl rfl (fun ρ W3 hE3 hh => by simp [toldE, lk, Op.operands, Call.operands, Act.eval] at hh; (go_simp) <;> omega) ?_
      refine mg_onval (.bool false) rfl rfl rfl (fun ρ W3 hE3 hh => by simp [toldE, lk, Op.operands, Call.operands, Act.eval] at hh; (go_simp) <;> omega) ?_
      refine mg_onval (.agg #[.int .u8 t, .slice A' n' c']) rfl rfl rfl (fun ρ W3 hE3 hh => by have pkt0 := (kt.to hE3 trivial).cell 0; simp only [List.getElem?_cons_zero, List.getElem?_cons_succ] at pkt0; have pkt1 := (kt.to hE3 trivial).cell 1; simp only [List.getElem?_cons_zero, List.getElem?_cons_succ] at pkt1; simp [toldE, lk, Op.operands, Call.operands, Act.eval] at hh; (go_simp) <;> omega) ?_
      refine mg_onval (.slice B m d) rfl rfl rfl (fun ρ W3 hE3 hh => by have pk00 := (k0.to hE3 trivial).cell 0; simp only [List.getElem?_cons_zero, List.getElem?_cons_succ] at pk00; simp [toldE, lk, Op.operands, Call.operands, Act.eval] at hh; (go_simp) <;> omega) ?_
      refine mg_onval (.int .i64 pre.length) rfl rfl rfl (fun ρ W3 hE3 hh => by have pk50 := (k5.to hE3 trivial).cell 0; simp only [List.getElem?_cons_zero, List.getElem?_cons_succ] at pk50; simp [toldE, lk, Op.operands, Call.operands, Act.eval] at hh; (go_simp) <;> omega) ?_
      refine mg_onval (.pointer (some ⟨pb, po, none⟩)) rfl rfl rfl (fun ρ W3 hE3 hh => by simp [toldE, lk, Op.operands, Call.operands, Act.eval] at hh; (go_simp) <;> omega) ?_
      refine mg_onval (.agg #[.int .u8 t, .slice A1 n1 c1]) rfl rfl rfl (fun ρ W3 hE3 hh => by have q0 := OnS.cell hE3 hc0 trivial; have q1 := OnS.cell hE3 hc1 trivial; simp [toldE, lk, Op.operands, Call.operands, Act.eval] at hh; (go_simp) <;> omega) ?_
      refine mg_onany (fun v _ => v = .bool true) rfl rfl rfl (fun _ _ _ _ h => h) (fun ρ W3 hE3 hh => ?_) ?_
      · simp [toldE, lk, Op.operands, Call.operands, Act.eval] at hh
        refine runs_call (f := 16) (args := #[.agg #[.int .u8 t, .slice A' n' c'], .agg #[.int .u8 t, .slice A1 n1 c1]]) (by go_simp) ((same_any t t W3 (ksr.mono (OnS.ext hE3)) (hc2.mono (OnS.ext hE3))).mono ?_)
        rintro e W4 ⟨rfl, hEW⟩
        exact ⟨_, rfl, hEW, by simp⟩
      refine mg_onval (.bool false) rfl rfl rfl (fun ρ W3 hE3 hh => by simp [toldE, lk, Op.operands, Call.operands, Act.eval] at hh; (go_simp) <;> omega) ?_
      refine mg_onval (.bool false) rfl rfl rfl (fun ρ W3 hE3 hh => by simp [toldE, lk, Op.operands, Call.operands, Act.eval] at hh; (go_simp) <;> omega) ?_
      refine mg_val (.bool false) rfl rfl (fun ρ W3 hE3 hh => by simp [toldE, lk, Op.operands, Call.operands, Act.eval] at hh; (go_simp) <;> omega) ?_
      refine mg_val (.bool false) rfl rfl (fun ρ W3 hE3 hh => by simp [toldE, lk, Op.operands, Call.operands, Act.eval] at hh; (go_simp) <;> omega) ?_
      refine mg_onval (.int .i64 pre.length) rfl rfl rfl (fun ρ W3 hE3 hh => by have pk50 := (k5.to hE3 trivial).cell 0; simp only [List.getElem?_cons_zero, List.getElem?_cons_succ] at pk50; simp [toldE, lk, Op.operands, Call.operands, Act.eval] at hh; (go_simp) <;> omega) ?_
      refine mg_onval (.slice B m d) rfl rfl rfl (fun ρ W3 hE3 hh => by have pk00 := (k0.to hE3 trivial).cell 0; simp only [List.getElem?_cons_zero, List.getElem?_cons_succ] at pk00; simp [toldE, lk, Op.operands, Call.operands, Act.eval] at hh; (go_simp) <;> omega) ?_
      refine mg_onval (.int .i64 m) rfl rfl rfl (fun ρ W3 hE3 hh => by simp [toldE, lk, Op.operands, Call.operands, Act.eval] at hh; (go_simp) <;> omega) ?_
      refine mg_onval (.bool false) rfl rfl rfl (fun ρ W3 hE3 hh => by simp [toldE, lk, Op.operands, Call.operands, Act.eval] at hh; (go_simp) <;> omega) ?_
      refine mg_onval (.bool false) rfl rfl rfl (fun ρ W3 hE3 hh => by simp [toldE, lk, Op.operands, Call.operands, Act.eval] at hh; (go_simp) <;> omega) ?_
      refine mg_off rfl rfl rfl (by intro h; cases h) ?_
      refine mg_off rfl rfl rfl (by intro h; cases h) ?_
      refine mg_off rfl rfl rfl (by intro h; cases h) ?_
      refine mg_off rfl rfl rfl (by intro h; cases h) ?_
      refine mg_off rfl rfl rfl (by intro h; cases h) ?_
      refine mg_off rfl rfl rfl (by intro h; cases h) ?_
      refine mg_off rfl rfl rfl (by intro h; cases h) ?_
      refine mg_off rfl rfl rfl (by intro h; cases h) ?_
      refine mg_off rfl rfl rfl (by intro h; cases h) ?_
      refine mg_off rfl rfl rfl (by intro h; cases h) ?_
      refine mg_off rfl rfl rfl (by intro h; cases h) ?_
      refine mg_off rfl rfl rfl (by intro h; cases h) ?_
      refine mg_off rfl rfl rfl (by intro h; cases h) ?_
      refine mg_off rfl rfl rfl (by intro h; cases h) ?_
      refine mg_off rfl rfl rfl (by intro h; cases h) ?_
      refine mg_off rfl rfl rfl (by intro h; cases h) ?_
      refine mg_off rfl rfl rfl (by intro h; cases h) ?_
      refine mg_off rfl rfl rfl (by intro h; cases h) ?_
      refine mg_onval (.bool false) rfl rfl rfl (fun ρ W3 hE3 hh => by simp [toldE, lk, Op.operands, Call.operands, Act.eval] at hh; (go_simp) <;> omega) ?_
      refine mg_val (.bool false) rfl rfl (fun ρ W3 hE3 hh => by simp [toldE, lk, Op.operands, Call.operands, Act.eval] at hh; (go_simp) <;> omega) ?_
      intro W3 hE3
      simp only [FinE]
      rintro _ rfl _ rfl _ rfl _ rfl _ rfl _ rfl _ rfl _ rfl _ rfl _ rfl _ rfl _ rfl _ rfl _ rfl _ rfl _ rfl _ rfl _ rfl _ rfl _ rfl _ rfl _ rfl _ rfl _ rfl _ rfl _ rfl _ rfl _ rfl _ rfl _ rfl _ rfl _ rfl _ rfl _ rfl _ rfl _ rfl _ rfl _ rfl _ rfl _ rfl _ rfl _ rfl _ rfl
      simp only [Act.put, List.setIfInBounds_toArray, List.set_cons_zero, List.set_cons_succ]
      have j0 := k0.to hE3 trivial
      have j1 := k1.to hE3 trivial
      have j2 := k2.to hE3 trivial
      have j3 := k3.to hE3 trivial
      have j4 := k4.to hE3 trivial
      have j5 := k5.to hE3 trivial
      have jE : OnS (· < w.heap.size) w W3 := (kE.trans (OnS.ext hE3))
      have d2 := j2.cell 0
      have d5 := j5.cell 0
      have f5 := j5.frozen 0
      simp only [List.getElem?_cons_zero] at d2 d5
      have hpl := HPX.out.length_le
      have hdl := derAll_len b
      simp only [List.length_append, List.length_cons, List.length_nil] at hpl
      have hs3 := hE3.size
      have hlen1 : ((pre.length + 1 : Nat) : Int) = (pre.length : Int) + 1 := by simp
      have e5 := j5.set 0 (.int .i64 ((pre.length : Int) + 1))
      have eO := OnS.setCell W3 ⟨w.heap.size + 5, 0, none⟩ (.int .i64 ((pre.length : Int) + 1))
      clear k0 k1 k2 k3 k4 k5
      by_cases hs : (pre.length : Int) + 1 = stop
      · have hsb : ((pre.length : Int) + 1 == stop) = true := by simpa using hs
        have HS := Lib.hid hs
        clear hs
        repeat' gi_step
        refine ⟨Z, ⟨rfl, ?_, ?_, ?_, ?_, ?_, ?_⟩, ?_⟩
        · have := HS.out; omega
        · have := HS.out; simp; omega
        · exact OnS.since jE eO (fun i hi _ => by simp only; omega)
        · exact j3.to eO (by simp only; omega)
        · exact j4.to eO (by simp only; omega)
        · simpa using e5
        · exact OnS.since (OnS.ext hE3) eO (fun i hi h => fun e => h ((h7 i).2 e))
      · have hsb : ((pre.length : Int) + 1 == stop) = false := by simpa using hs
        have HS := Lib.hid hs
        clear hs
        repeat' gi_step
        refine ⟨Z, ⟨?_, ?_, ?_, ?_, ?_, ?_, ?_, ?_, h7⟩, ?_, ?_⟩
        · have h8 := HS.out; have h9 := HH1.out; simp; omega
        · exact OnS.since jE eO (fun i hi _ => by simp only; omega)
        · exact j0.to eO (by simp only; omega)
        · exact j1.to eO (by simp only; omega)
        · exact j2.to eO (by simp only; omega)
        · exact j3.to eO (by simp only; omega)
        · exact j4.to eO (by simp only; omega)
        · simpa using e5
        · exact OnS.since (OnS.ext hE3) eO (fun i hi h => fun e => h ((h7 i).2 e))
        · intro k hk
          refine ⟨?_, .inl hk⟩
          have := hZ k hk
          have := eO.size
          omega
    · have hml : want.length ≤ pre.length := by omega
      rw [List.getElem?_append_right (by simpa using hml)] at hxat
      simp only [List.length_map] at hxat
      obtain ⟨hcode, hxe, hpm⟩ : code ≠ 0 ∧ x = ((0, []), code) ∧ pre.length = m := by
        by_cases hc : code = 0
        · rw [if_pos hc] at hxat; simp at hxat
        · rw [if_neg hc] at hxat
          rcases Nat.eq_zero_or_pos (pre.length - want.length) with h | h
          · rw [h] at hxat
            simp at hxat
            exact ⟨hc, hxat.symm, by omega⟩
          · rw [List.getElem?_eq_none (by simp; omega)] at hxat
            cases hxat
      subst hxe
      simp only at bt ksr ⊢
      have hn0 := ksr.len
      simp only [List.length_nil] at hn0
      subst hn0
      have hd : decide ((pre.length : Int) < m) = false := by simp; omega
      have hd' : decide ((m : Int) ≤ pre.length) = true := by simp; omega
      have hcb : (code == 0) = false := by simpa using hcode
      have kt := bt
      have hmp : m ≤ pre.length := by omega
      clear hcode hpm hml hjm hxat
      repeat' gi_step
      refine region_mgIn (by kernel_rfl) (by kernel_rfl) 43 (by kernel_rfl) (by decide) ?_
      simp only [List.take_succ_cons, List.take_zero, List.drop_succ_cons, List.drop_zero]
      refine mg_val (.int .i64 pre.length) rfl rfl (fun ρ W3 hE3 hh => by have pk50 := (k5.to hE3 trivial).cell 0; simp only [List.getElem?_cons_zero, List.getElem?_cons_succ] at pk50; simp [toldE, lk, Op.operands, Call.operands, Act.eval] at hh; (go_simp) <;> omega) ?_
      refine mg_val (.slice B m d) rfl rfl (fun ρ W3 hE3 hh => by have pk00 := (k0.to hE3 trivial).cell 0; simp only [List.getElem?_cons_zero, List.getElem?_cons_succ] at pk00; simp [toldE, lk, Op.operands, Call.operands, Act.eval] at hh; (go_simp) <;> omega) ?_
      refine mg_val (.int .i64 m) rfl rfl (fun ρ W3 hE3 hh => by simp [toldE, lk, Op.operands, Call.operands, Act.eval] at hh; (go_simp) <;> omega) ?_
      refine mg_val (.bool false) rfl rfl (fun ρ W3 hE3 hh => by simp [toldE, lk, Op.operands, Call.operands, Act.eval] at hh; (go_simp) <;> omega) ?_
      refine mg_val (.bool false) rfl rfl (fun ρ W3 hE3 hh => by simp [toldE, lk, Op.operands, Call.operands, Act.eval] at hh; (go_simp) <;> omega) ?_
      refine mg_off rfl rfl rfl (by intro h; cases h) ?_
      refine mg_off rfl rfl rfl (by intro h; cases h) ?_
      refine mg_off rfl rfl rfl (by intro h; cases h) ?_
      refine mg_off rfl rfl rfl (by intro h; cases h) ?_
      refine mg_off rfl rfl rfl (by intro h; cases h) ?_
      refine mg_off rfl rfl rfl (by intro h; cases h) ?_
      refine mg_off rfl rfl rfl (by intro h; cases h) ?_
      refine mg_off rfl rfl rfl (by intro h; cases h) ?_
      refine mg_off rfl rfl rfl (by intro h; cases h) ?_
      refine mg_off rfl rfl rfl (by intro h; cases h) ?_
      refine mg_off rfl rfl rfl (by intro h; cases h) ?_
      refine mg_val (.bool false) rfl rfl (fun ρ W3 hE3 hh => by simp [toldE, lk, Op.operands, Call.operands, Act.eval] at hh; (go_simp) <;> omega) ?_
      refine mg_val (.bool false) rfl rfl (fun ρ W3 hE3 hh => by simp [toldE, lk, Op.operands, Call.operands, Act.eval] at hh; (go_simp) <;> omega) ?_
      refine mg_onval (.int .i64 pre.length) rfl rfl rfl (fun ρ W3 hE3 hh => by have pk50 := (k5.to hE3 trivial).cell 0; simp only [List.getElem?_cons_zero, List.getElem?_cons_succ] at pk50; simp [toldE, lk, Op.operands, Call.operands, Act.eval] at hh; (go_simp) <;> omega) ?_
      refine mg_onval (.slice B m d) rfl rfl rfl (fun ρ W3 hE3 hh => by have pk00 := (k0.to hE3 trivial).cell 0; simp only [List.getElem?_cons_zero, List.getElem?_cons_succ] at pk00; simp [toldE, lk, Op.operands, Call.operands, Act.eval] at hh; (go_simp) <;> omega) ?_
      refine mg_onval (.int .i64 m) rfl rfl rfl (fun ρ W3 hE3 hh => by simp [toldE, lk, Op.operands, Call.operands, Act.eval] at hh; (go_simp) <;> omega) ?_
      refine mg_onval (.bool true) rfl rfl rfl (fun ρ W3 hE3 hh => by simp [toldE, lk, Op.operands, Call.operands, Act.eval] at hh; (go_simp) <;> omega) ?_
      refine mg_onval (.bool true) rfl rfl rfl (fun ρ W3 hE3 hh => by simp [toldE, lk, Op.operands, Call.operands, Act.eval] at hh; (go_simp) <;> omega) ?_
      refine mg_onval (.int .i64 code) rfl rfl rfl (fun ρ W3 hE3 hh => by have pk10 := (k1.to hE3 trivial).cell 0; simp only [List.getElem?_cons_zero, List.getElem?_cons_succ] at pk10; simp [toldE, lk, Op.operands, Call.operands, Act.eval] at hh; (go_simp) <;> omega) ?_
      refine mg_onval (.bool false) rfl rfl rfl (fun ρ W3 hE3 hh => by simp [toldE, lk, Op.operands, Call.operands, Act.eval] at hh; (go_simp) <;> omega) ?_
      refine mg_onval (.bool false) rfl rfl rfl (fun ρ W3 hE3 hh => by simp [toldE, lk, Op.operands, Call.operands, Act.eval] at hh; (go_simp) <;> omega) ?_
      refine mg_onval (.int .i64 code) rfl rfl rfl (fun ρ W3 hE3 hh => by simp [toldE, lk, Op.operands, Call.operands, Act.eval] at hh; (go_simp) <;> omega) ?_
      refine mg_onval (.int .i64 code) rfl rfl rfl (fun ρ W3 hE3 hh => by have pk10 := (k1.to hE3 trivial).cell 0; simp only [List.getElem?_cons_zero, List.getElem?_cons_succ] at pk10; simp [toldE, lk, Op.operands, Call.operands, Act.eval] at hh; (go_simp) <;> omega) ?_
      refine mg_onval (.bool false) rfl rfl rfl (fun ρ W3 hE3 hh => by simp [toldE, lk, Op.operands, Call.operands, Act.eval] at hh; (go_simp) <;> omega) ?_
      refine mg_onval (.bool false) rfl rfl rfl (fun ρ W3 hE3 hh => by simp [toldE, lk, Op.operands, Call.operands, Act.eval] at hh; (go_simp) <;> omega) ?_
      refine mg_onval (.bool false) rfl rfl rfl (fun ρ W3 hE3 hh => by simp [toldE, lk, Op.operands, Call.operands, Act.eval] at hh; (go_simp) <;> omega) ?_
      refine mg_onval (.pointer (some ⟨W.heap.size, 0, none⟩)) rfl rfl rfl (fun ρ W3 hE3 hh => by simp [toldE, lk, Op.operands, Call.operands, Act.eval] at hh; (go_simp) <;> omega) ?_
      refine mg_onval (.int .u8 0) rfl rfl rfl (fun ρ W3 hE3 hh => by have pkt0 := (kt.to hE3 trivial).cell 0; simp only [List.getElem?_cons_zero, List.getElem?_cons_succ] at pkt0; simp [toldE, lk, Op.operands, Call.operands, Act.eval] at hh; (go_simp) <;> omega) ?_
      refine mg_onval (.bool false) rfl rfl rfl (fun ρ W3 hE3 hh => by simp [toldE, lk, Op.operands, Call.operands, Act.eval] at hh; (go_simp) <;> omega) ?_
      refine mg_onval (.bool false) rfl rfl rfl (fun ρ W3 hE3 hh => by simp [toldE, lk, Op.operands, Call.operands, Act.eval] at hh; (go_simp) <;> omega) ?_
      refine mg_onval (.bool false) rfl rfl rfl (fun ρ W3 hE3 hh => by simp [toldE, lk, Op.operands, Call.operands, Act.eval] at hh; (go_simp) <;> omega) ?_
      refine mg_onval (.pointer (some ⟨W.heap.size, 1, none⟩)) rfl rfl rfl (fun ρ W3 hE3 hh => by simp [toldE, lk, Op.operands, Call.operands, Act.eval] at hh; (go_simp) <;> omega) ?_
      refine mg_onval (.slice A' 0 c') rfl rfl rfl (fun ρ W3 hE3 hh => by have pkt1 := (kt.to hE3 trivial).cell 1; simp only [List.getElem?_cons_zero, List.getElem?_cons_succ] at pkt1; simp [toldE, lk, Op.operands, Call.operands, Act.eval] at hh; (go_simp) <;> omega) ?_
      refine mg_onval (.int .i64 0) rfl rfl rfl (fun ρ W3 hE3 hh => by simp [toldE, lk, Op.operands, Call.operands, Act.eval] at hh; (go_simp) <;> omega) ?_
      refine mg_onval (.bool false) rfl rfl rfl (fun ρ W3 hE3 hh => by simp [toldE, lk, Op.operands, Call.operands, Act.eval] at hh; (go_simp) <;> omega) ?_
      refine mg_onval (.bool false) rfl rfl rfl (fun ρ W3 hE3 hh => by simp [toldE, lk, Op.operands, Call.operands, Act.eval] at hh; (go_simp) <;> omega) ?_
      refine mg_onval (.bool false) rfl rfl rfl (fun ρ W3 hE3 hh => by simp [toldE, lk, Op.operands, Call.operands, Act.eval] at hh; (go_simp) <;> omega) ?_
      refine mg_val (.bool false) rfl rfl (fun ρ W3 hE3 hh => by simp [toldE, lk, Op.operands, Call.operands, Act.eval] at hh; (go_simp) <;> omega) ?_
      intro W3 hE3
      simp only [FinE]
      rintro _ rfl _ rfl _ rfl _ rfl _ rfl _ rfl _ rfl _ rfl _ rfl _ rfl _ rfl _ rfl _ rfl _ rfl _ rfl _ rfl _ rfl _ rfl _ rfl _ rfl _ rfl _ rfl _ rfl _ rfl _ rfl _ rfl _ rfl _ rfl _ rfl _ rfl _ rfl _ rfl _ rfl _ rfl _ rfl _ rfl _ rfl _ rfl _ rfl _ rfl _ rfl _ rfl _ rfl
      simp only [Act.put, List.setIfInBounds_toArray, List.set_cons_zero, List.set_cons_succ]
      have j0 := k0.to hE3 trivial
      have j1 := k1.to hE3 trivial
      have j2 := k2.to hE3 trivial
      have j3 := k3.to hE3 trivial
      have j4 := k4.to hE3 trivial
      have j5 := k5.to hE3 trivial
      have jE : OnS (· < w.heap.size) w W3 := (kE.trans (OnS.ext hE3))
      have d2 := j2.cell 0
      have d5 := j5.cell 0
      have f5 := j5.frozen 0
      simp only [List.getElem?_cons_zero] at d2 d5
      have hpl := HPX.out.length_le
      have hdl := derAll_len b
      simp only [List.length_append, List.length_cons, List.length_nil] at hpl
      have hs3 := hE3.size
      have hlen1 : ((pre.length + 1 : Nat) : Int) = (pre.length : Int) + 1 := by simp
      have e5 := j5.set 0 (.int .i64 ((pre.length : Int) + 1))
      have eO := OnS.setCell W3 ⟨w.heap.size + 5, 0, none⟩ (.int .i64 ((pre.length : Int) + 1))
      clear k0 k1 k2 k3 k4 k5
      by_cases hs : (pre.length : Int) + 1 = stop
      · have hsb : ((pre.length : Int) + 1 == stop) = true := by simpa using hs
        have HS := Lib.hid hs
        clear hs
        repeat' gi_step
        refine ⟨Z, ⟨rfl, ?_, ?_, ?_, ?_, ?_, ?_⟩, ?_⟩
        · have := HS.out; omega
        · have := HS.out; simp; omega
        · exact OnS.since jE eO (fun i hi _ => by simp only; omega)
        · exact j3.to eO (by simp only; omega)
        · exact j4.to eO (by simp only; omega)
        · simpa using e5
        · exact OnS.since (OnS.ext hE3) eO (fun i hi h => fun e => h ((h7 i).2 e))
      · have hsb : ((pre.length : Int) + 1 == stop) = false := by simpa using hs
        have HS := Lib.hid hs
        clear hs
        repeat' gi_step
        refine ⟨Z, ⟨?_, ?_, ?_, ?_, ?_, ?_, ?_, ?_, h7⟩, ?_, ?_⟩
        · have h8 := HS.out; have h9 := HH1.out; simp; omega
        · exact OnS.since jE eO (fun i hi _ => by simp only; omega)
        · exact j0.to eO (by simp only; omega)
        · exact j1.to eO (by simp only; omega)
        · exact j2.to eO (by simp only; omega)
        · exact j3.to eO (by simp only; omega)
        · exact j4.to eO (by simp only; omega)
        · simpa using e5
        · exact OnS.since (OnS.ext hE3) eO (fun i hi h => fun e => h ((h7 i).2 e))
        · intro k hk
          refine ⟨?_, .inl hk⟩
          have := hZ k hk
          have := eO.size
          omega
  case hdone =>
    rintro W Z ⟨h1, h4, q0, q1, q2, q3, q4, q5, h7⟩ hD
    obtain ⟨N, hN⟩ : ∃ N : Int, (if 1 ≤ stop ∧ stop ≤ (derAll b).length then stop else (derAll b).length) = N := ⟨_, rfl⟩
    have hNl : ((derAll b).length : Int) = N := by rw [← hN, if_neg h1]
    rw [hNl] at q5
    clear hNl h1
    have d3 := q3.cell 0
    have d4 := q4.cell 0
    have d5 := q5.cell 0
    have f3 := q3.frozen 0
    have f4 := q4.frozen 0
    simp only [List.getElem?_cons_zero] at d3 d4 d5
    dsimp only
    repeat' go_step
    generalize hw5 : World.setCell (World.setCell W _ _) _ _ = w5
    have hO5 : OnS (fun k => k ≠ w.heap.size + 3 ∧ k ≠ w.heap.size + 4) W w5 := hw5 ▸ ((OnS.setCell W ⟨w.heap.size + 3, 0, none⟩ _).weaken (fun k _ hk => hk.1)).trans ((OnS.setCell _ ⟨w.heap.size + 4, 0, none⟩ _).weaken (fun k _ hk => hk.2))
    have r3 : Bx w5 (w.heap.size + 3) 3 [.int .i64 N] := hw5 ▸ (q3.set 0 _).to (OnS.setCell _ ⟨w.heap.size + 4, 0, none⟩ _) (by dsimp only; omega)
    have r4 : Bx w5 (w.heap.size + 4) 4 [.bool true] := hw5 ▸ (q4.to (OnS.setCell _ ⟨w.heap.size + 3, 0, none⟩ _) (by dsimp only; omega)).set 0 _
    clear hw5
    have hlt3 := r3.lt
    have hD5 : w5.heap[w4.heap.size]? = some (.deferred (some [])) := by rw [hO5.block _ (Array.getElem?_eq_some_iff.1 hD).1 (by omega)]; exact hD
    refine ⟨by simp, .inl ⟨_, _, rfl, run_takeDeferred hD5, ?_⟩⟩
    have hP := OnS.putObj w5 w4.heap.size (.deferred none)
    refine ⟨_, res12 (r3.to hP (by omega)) (r4.to hP (by omega)) _ rfl rfl, by rw [hN], (OnS.since (OnS.since h4 hO5 (fun i hi _ => by omega)) hP (fun i hi _ => by omega)).old (fun k hk => hk)⟩
  case hstop =>
    rintro cd pre W0 Z hpre ⟨rfl, hs1, hs2, h4, q3, q4, q5⟩ W hO hD
    replace h4 : OnS (· < w.heap.size) w W := OnS.since h4 hO (fun i hi _ => by omega)
    replace q3 := q3.to hO (by omega)
    replace q4 := q4.to hO (by omega)
    replace q5 := q5.to hO (by omega)
    have hle := hpre.length_le
    obtain ⟨N, hN⟩ : ∃ N : Int, (if 1 ≤ stop ∧ stop ≤ (derAll b).length then stop else (derAll b).length) = N := ⟨_, rfl⟩
    have hNl : (pre.length : Int) = N := by rw [← hN, if_pos ⟨hs1, by omega⟩]; exact hs2.symm
    rw [hNl] at q5
    clear hNl hs1 hs2 hO hle hpre
    dsimp only
    repeat' gi_step
    have d3 := q3.cell 0
    have d4 := q4.cell 0
    have d5 := q5.cell 0
    have f3 := q3.frozen 0
    have f4 := q4.frozen 0
    simp only [List.getElem?_cons_zero] at d3 d4 d5
    try dsimp only
    repeat' go_step
    generalize hw5 : World.setCell (World.setCell W _ _) _ _ = w5
    have hO5 : OnS (fun k => k ≠ w.heap.size + 3 ∧ k ≠ w.heap.size + 4) W w5 := hw5 ▸ ((OnS.setCell W ⟨w.heap.size + 3, 0, none⟩ _).weaken (fun k _ hk => hk.1)).trans ((OnS.setCell _ ⟨w.heap.size + 4, 0, none⟩ _).weaken (fun k _ hk => hk.2))
    have r3 : Bx w5 (w.heap.size + 3) 3 [.int .i64 N] := hw5 ▸ (q3.set 0 _).to (OnS.setCell _ ⟨w.heap.size + 4, 0, none⟩ _) (by dsimp only; omega)
    have r4 : Bx w5 (w.heap.size + 4) 4 [.bool true] := hw5 ▸ (q4.to (OnS.setCell _ ⟨w.heap.size + 3, 0, none⟩ _) (by dsimp only; omega)).set 0 _
    clear hw5
    have hlt3 := r3.lt
    have hD5 : w5.heap[w4.heap.size]? = some (.deferred (some [])) := by rw [hO5.block _ (Array.getElem?_eq_some_iff.1 hD).1 (by omega)]; exact hD
    refine ⟨by simp, .inl ⟨_, _, rfl, run_takeDeferred hD5, ?_⟩⟩
    have hP := OnS.putObj w5 w4.heap.size (.deferred none)
    refine ⟨_, res12 (r3.to hP (by omega)) (r4.to hP (by omega)) _ rfl rfl, by rw [hN], (OnS.since (OnS.since h4 hO5 (fun i hi _ => by omega)) hP (fun i hi _ => by omega)).old (fun k hk => hk)⟩
end Go.Proofs.Ytikekdifipacmaa
