/- DerAll walked. -/
import Derived.Test.YtikekdifipacmaaD30
import Derived.Test.YtikekdifipacmaaD18
import Derived.Deep.LoopGhost
namespace Go.Proofs.Ytikekdifipacmaa
open Go.RowKit

theorem derRead_err3 (b : List Int) : (derRead b).2.2.2 ≠ 0 → (derRead b).2.2.1 = [] := by
  unfold derRead
  repeat' split
  all_goals (intro h; first | rfl | exact absurd rfl h)

set_option maxRecDepth 100000 in
set_option maxHeartbeats 8000000 in
theorem derall_any {A : Option Addr} {n c : Nat} {b : List Int} {stop : Int} (w : World) (H : SR (fun _ => True) w tU8 A n c b) (hs0 : 0 ≤ stop) (hs1 : stop ≤ 255) :
    Calls Try.prog 4 #[.slice A n c, .int .u8 stop] w fun e w' => e = .returned (.bool true) ∧ Ext w w' := by
  have hbl := H.len
  go_enter Try.func4, Try.ntmps4
  repeat' (first | go_values | go_skip | go_guarded | go_step)
  refine (awake_any w).mono ?_
  rintro e w1 ⟨rfl, hE1⟩
  dsimp only
  by_cases h3 : 3000 < n
  · have hd : decide (3000 < (n : Int)) = true := by simp; omega
    repeat' (first | go_values | go_skip | go_guarded | go_step)
    go_ret
    exact ⟨rfl, hE1⟩
  have hd : decide (3000 < (n : Int)) = false := by simp; omega
  have HBL := Lib.hid hbl
  clear hbl
  repeat' (first | go_values | go_skip | go_guarded | go_step)
  go_loopg [5, 6, 7] b.length (fun k v5 v6 v7 wr => ∃ (pre : List (Int × List Int)) (rest : List Int) (A1 : Option Addr) (n1 c1 : Nat) (code : Int), v7 = .slice A1 n1 c1 ∧ v6 = .int .i64 code ∧ SR (· < w.heap.size) wr tU8 A1 n1 c1 rest ∧ rest.length = k ∧ Ext w wr ∧
    derAll b = pre.map (fun x => (x, (0 : Int))) ++ (if code = 0 then derAll rest else [((0, []), code)]) ∧ (code ≠ 0 → rest = []) ∧ OwnR (fun k => some k ≠ v5.ownBlock) wr w.heap.size 28 tTlv v5 pre)
  case atStart => exact ⟨[], b, A, n, c, 0, rfl, rfl, (H.weaken (S' := (· < w.heap.size)) (by decide) (fun k hk _ => hk)).mono (OnS.ext hE1), rfl, hE1, by simp, by simp, OwnR.nil _ _ _ _ _⟩
  case round =>
    obtain ⟨pre, rest, A1, n1, c1, code, rfl, rfl, hr, hk, hE, hdd, hcr, hO⟩ := hrel
    have hl := hr.len
    by_cases h0 : 0 < n1
    · have hd0 : decide (0 < (n1 : Int)) = true := by simp; omega
      obtain rfl : code = 0 := Classical.byContradiction fun hc => by rw [hcr hc] at hl; simp at hl; omega
      rw [if_pos rfl] at hdd
      clear hcr
      have HL := Lib.hid hl
      have HK := Lib.hid hk
      clear hl hk
      repeat' (first | go_values | go_skip | go_guarded | go_step)
      refine (refRead_any wr hr).mono ?_
      rintro _ w2 ⟨_, rfl, hE2, A2, n2, c2, A3, n3, c3, rfl, h2, h3'⟩
      generalize hq : derRead rest = q at h2 h3' ⊢
      obtain ⟨t, bd, rs, er⟩ := q
      simp only at h2 h3' ⊢
      by_cases hx : er = 0
      · have hx' : (er == 0) = true := by simpa using hx
        have HX := Lib.hid hx
        have HQ := Lib.hid hq
        clear hx hq
        generalize hw3 : World.alloc w2 (.cells #[.int .u8 t, .slice A2 n2 c2] 28) = w3
        generalize hw4 : World.alloc w3 (.cells #[.int .u8 t, .slice A2 n2 c2] 28) = w4
        have hE3 : Ext w2 w3 := hw3 ▸ OnS.alloc _ _
        have hE4 : Ext w3 w4 := hw4 ▸ OnS.alloc _ _
        have kb : Bx w4 w3.heap.size 28 [.int .u8 t, .slice A2 n2 c2] := hw4 ▸ Bx.new w3 _ _
        have hb2 := kb.lt
        have hz3 : w3.heap.size = w2.heap.size + 1 := hw3 ▸ World.size_alloc _ _
        have hz4 : w4.heap.size = w3.heap.size + 1 := hw4 ▸ World.size_alloc _ _
        have hzE := hE.size
        have hz2 := hE2.size
        have hO2 := (hO.ext hE2)
        have hOl := hO2.lt
        have hO3 := ((hO2.weaken (S' := fun k => some k ≠ u5.ownBlock ∧ k ≤ w3.heap.size) (fun k hk h => ⟨h, by omega⟩)).ext hE3).ext hE4
        have hHS : SR (fun k => some k ≠ u5.ownBlock ∧ k ≤ w3.heap.size) w4 tTlv (some ⟨w3.heap.size, 0, none⟩) 1 1 [(t, bd)] :=
          SR.ofBx kb (Encs.single (T := tTlv) ⟨A2, n2, c2, rfl, ((h2.weaken (by decide) (fun k _ hk => ⟨fun e => by have := hOl k e.symm; omega, by omega⟩)).mono (OnS.ext hE3)).mono (OnS.ext hE4)⟩) ⟨fun e => by have := hOl _ e.symm; omega, by omega⟩ 1 rfl (by simp [tTlv]) (by omega)
        have hpl : pre.length ≤ 4096 := by
          have := derAll_len b
          rw [hdd] at this; simp at this; omega
        rw [hz3] at hO3 hHS hb2
        clear kb hE3 hE4
        subst hw4
        subst hw3
        have hb3 : w.heap.size ≤ ((w2.alloc (.cells #[.int .u8 t, .slice A2 n2 c2] 28)).alloc (.cells #[.int .u8 t, .slice A2 n2 c2] 28)).heap.size := by omega
        clear hz3 hz4 hb2
        have HDD := Lib.hid hdd
        clear hdd
        repeat' (first | (refine wl_append rfl hO3 hHS (fun _ h => h) Try.underlying36 Try.info28 rfl (by decide) rfl rfl rfl ?_ ?_ ?_ ?_ ?_) | go_step )
        · exact hb3
        · simp [tTlv]; omega
        · simp; omega
        · exact fun k hk e => hk.1 e
        · intro v' w5 hHO5 hg hat hnil
          repeat' go_step
          have HC := derAll_cons rest (by rintro rfl; have := HL.out; simp at this; omega)
          have HM := derRead_shorter rest
          rw [HQ.out] at HC HM
          have hr0 : er = 0 := HX.out
          subst hr0
          simp only [if_true] at HC HM
          have hlen := HM trivial
          have hO5 : OnS (· < w.heap.size) w2 w5 := OnS.since (OnS.ext ((OnS.alloc w2 (.cells #[.int .u8 t, .slice A2 n2 c2] 28)).trans (OnS.alloc _ (.cells #[.int .u8 t, .slice A2 n2 c2] 28)))) (OnS.grown (S := (· < w.heap.size)) hg (fun k hk e => by have := hOl k e.symm; omega)) (fun i _ h => h)
          have hd' : derAll b = (pre ++ [(t, bd)]).map (fun x => (x, (0 : Int))) ++ (if (0 : Int) = 0 then derAll rs else [((0, []), 0)]) := by rw [HDD.out, HC]; simp
          have hkk := HK.out
          go_roundg rs.length
          case rel =>
            refine ⟨pre ++ [(t, bd)], rs, A3, n3, c3, 0, rfl, rfl, h3'.mono hO5, rfl, OnS.since (hE.trans hE2) hO5 (fun i hi _ => hi), hd', by simp, hHO5.weaken (fun k hk h e => ?_)⟩
            rcases hat with h1 | h1
            · exact h.1 (e.trans h1)
            · rw [h1] at e
              simp at e
              have := h.2
              omega
          case measure => omega
      · have hx' : (er == 0) = false := by simpa using hx
        have HX := Lib.hid hx
        have HQ := Lib.hid hq
        clear hx hq
        have HDD := Lib.hid hdd
        clear hdd
        repeat' (first | go_values | go_skip | go_guarded | go_step)
        have HC := derAll_cons rest (by rintro rfl; have := HL.out; simp at this; omega)
        have HE := derRead_err rest
        have HE3 := derRead_err3 rest
        rw [HQ.out] at HC HE HE3
        simp only [if_neg HX.out] at HC HE HE3
        obtain ⟨rfl, rfl⟩ := HE HX.out
        obtain rfl := HE3 HX.out
        have hkk := HK.out
        have hll := HL.out
        go_roundg 0
        case rel =>
          refine ⟨pre, [], A3, n3, c3, er, rfl, rfl, (h3'.mono (OnS.ext (OnS.alloc _ _))).weaken (by decide) (fun k hk h => h), rfl, (hE.trans hE2).trans (OnS.alloc _ _), ?_, fun _ => rfl, (hO.ext hE2).ext (OnS.alloc _ _)⟩
          rw [HDD.out, HC, if_neg HX.out]
        case measure => omega
    · obtain rfl : rest = [] := List.eq_nil_of_length_eq_zero (by omega)
      have hd0 : decide (0 < (n1 : Int)) = false := by simp; omega
      rw [derAll_nil] at hdd
      have hpl : pre.length ≤ 4096 := by
        have := derAll_len b
        rw [hdd] at this; simp at this; omega
      obtain ⟨A9, c9, hv9, hs9⟩ := hO.read (S' := fun _ => True) (fun _ _ => trivial) (fun _ _ _ => trivial) (by simp [tTlv]; omega) (by omega)
      subst hv9
      obtain ⟨nw, hnw⟩ : ∃ nw, pre.length = nw := ⟨_, rfl⟩
      have hT : (derAll b).length = nw + (if code = 0 then 0 else 1) := by
        rw [hdd, List.length_append, List.length_map, hnw]; split <;> rfl
      rw [hnw] at hs9 hpl ⊢
      clear hnw hO hr hl hk hcr
      repeat' (first | go_values | go_skip | go_guarded | go_step)
      have hdd2 := hdd
      obtain ⟨T, hTT⟩ : ∃ T, (derAll b).length = T := ⟨_, rfl⟩
      rw [hTT] at hT
      refine (walk_any code stop wr (H.mono (OnS.ext hE)) hs9 hdd).mono ?_
      rw [hTT]
      obtain ⟨r1, hr1⟩ : ∃ r1 : Int, (if 1 ≤ stop ∧ stop ≤ (T : Int) then stop else (T : Int)) = r1 := ⟨_, rfl⟩
      rw [hr1]
      rintro e w2 ⟨rfl, hE2⟩
      dsimp only
      have HS9 := hs9.mono (OnS.ext hE2)
      have HDD := Lib.hid hdd
      have HT := Lib.hid (And.intro hT (And.intro hTT hr1))
      clear hdd hdd2 hT hTT hr1
      repeat' (first | go_values | go_skip | go_guarded | go_step)
      refine (walk_any code (-1) w2 ((H.mono (OnS.ext hE)).mono (OnS.ext hE2)) HS9 HDD.out).mono ?_
      rw [HT.out.2.1, if_neg (by omega)]
      rintro e w3 ⟨rfl, hE3⟩
      dsimp only
      have hEE : Ext w w3 := hE.trans (hE2.trans hE3)
      obtain ⟨hT, -, hr1⟩ := HT.out
      have hT2 : T ≤ 4097 := by rw [hT]; split <;> omega
      by_cases hc : code = 0
      · rw [if_pos hc] at hT
        have hT3 : T = nw := by omega
        subst hT3
        subst hc
        clear HT HDD hT
        by_cases hp : 0 < stop ∧ stop < (T : Int)
        · rw [if_pos ⟨by omega, by omega⟩] at hr1
          subst hr1
          obtain ⟨hp1, hp2⟩ := hp
          have g1 : decide (0 < stop) = true := by simpa using hp1
          have g2 : decide (stop < (T : Int)) = true := by simpa using hp2
          have g3 : (stop == stop) = true := by simp
          have g4 : ((T : Int) == T) = true := by simp
          clear hp1 hp2
          repeat' (first | go_values | go_skip | go_guarded | go_step)
          go_ret
          exact ⟨rfl, hEE⟩
        · have hr2 : r1 = (T : Int) := by rw [← hr1]; split <;> omega
          subst hr2
          have g4 : ((T : Int) == T) = true := by simp
          clear hr1
          by_cases hp1 : 0 < stop
          · have g1 : decide (0 < stop) = true := by simpa using hp1
            have g2 : decide (stop < (T : Int)) = false := by simp; omega
            clear hp hp1
            repeat' (first | go_values | go_skip | go_guarded | go_step)
            go_ret
            exact ⟨rfl, hEE⟩
          · have g1 : decide (0 < stop) = false := by simpa using hp1
            clear hp hp1
            repeat' (first | go_values | go_skip | go_guarded | go_step)
            go_ret
            exact ⟨rfl, hEE⟩
      · rw [if_neg hc] at hT
        have hcb : (code != 0) = true := by simpa using hc
        have hTi : (T : Int) = (nw : Int) + 1 := by omega
        rw [hTi] at hr1 ⊢
        clear HT HDD hT hTi hc
        by_cases hp : 0 < stop ∧ stop < (nw : Int) + 1
        · rw [if_pos ⟨by omega, by omega⟩] at hr1
          subst hr1
          obtain ⟨hp1, hp2⟩ := hp
          have g1 : decide (0 < stop) = true := by simpa using hp1
          have g2 : decide (stop < (nw : Int) + 1) = true := by simpa using hp2
          have g3 : (stop == stop) = true := by simp
          have g4 : ((nw : Int) + 1 == (nw : Int) + 1) = true := by simp
          clear hp1 hp2
          repeat' (first | go_values | go_skip | go_guarded | go_step)
          go_ret
          exact ⟨rfl, hEE⟩
        · have hr2 : r1 = (nw : Int) + 1 := by rw [← hr1]; split <;> omega
          subst hr2
          have g4 : ((nw : Int) + 1 == (nw : Int) + 1) = true := by simp
          clear hr1
          by_cases hp1 : 0 < stop
          · have g1 : decide (0 < stop) = true := by simpa using hp1
            have g2 : decide (stop < (nw : Int) + 1) = false := by simp; omega
            clear hp hp1
            repeat' (first | go_values | go_skip | go_guarded | go_step)
            go_ret
            exact ⟨rfl, hEE⟩
          · have g1 : decide (0 < stop) = false := by simpa using hp1
            clear hp hp1
            repeat' (first | go_values | go_skip | go_guarded | go_step)
            go_ret
            exact ⟨rfl, hEE⟩
end Go.Proofs.Ytikekdifipacmaa
