/- DerDays: a second written as a time. -/
import Derived.Test.YtikekdifipacmaaD14
import Derived.Test.YtikekdifipacmaaD21
import Derived.Lib.ConvBytes
import Derived.Deep.LoopGhost
import Derived.Deep.CutBlock
import Derived.Deep.CutRange
import Derived.Deep.DeepCutAuto
import Derived.Test.YtikekdifipacmaaK5
import Derived.IntWalk
import Derived.Test.YtikekdifipacmaaD24
namespace Go.Proofs.Ytikekdifipacmaa
open Go.RowKit

/-- The days ahead of a year. -/
def ahead (y : Int) : Int := 365 * (y - 1970) + ((y - 1) / 4 - (y - 1) / 100 + (y - 1) / 400) - 477
theorem ahead_succ (y : Int) : ahead (y + 1) = ahead y + (if isLeap y then 366 else 365) := by
  by_cases h : isLeap y
  · rw [if_pos h]; unfold isLeap at h; unfold ahead; omega
  · rw [if_neg h]; unfold isLeap at h; unfold ahead; omega
theorem feb_eq (y : Int) : feb y = if isLeap y then 29 else 28 := rfl
theorem msum12 (f : Int) : msum f 12 = 337 + f := by simp [msum, mlen]; omega
theorem ahead_big (y : Int) (h : 1970 ≤ y) : 365 * (y - 1970) ≤ ahead y := by unfold ahead; omega

set_option maxRecDepth 100000 in
theorem mlen_idxI : ∀ k : Nat, k < 12 → ∀ W : World, (Instr.index 29 (.agg #[.int .i64 31, .int .i64 28, .int .i64 31, .int .i64 30, .int .i64 31, .int .i64 30, .int .i64 31, .int .i64 31, .int .i64 30, .int .i64 31, .int .i64 30, .int .i64 31]) (.int .i64 k)).run Try.prog W = .ok (.int .i64 (mlen 28 k)) W
  | 0, _ => fun W => by go_simp; rfl
  | 1, _ => fun W => by go_simp; rfl
  | 2, _ => fun W => by go_simp; rfl
  | 3, _ => fun W => by go_simp; rfl
  | 4, _ => fun W => by go_simp; rfl
  | 5, _ => fun W => by go_simp; rfl
  | 6, _ => fun W => by go_simp; rfl
  | 7, _ => fun W => by go_simp; rfl
  | 8, _ => fun W => by go_simp; rfl
  | 9, _ => fun W => by go_simp; rfl
  | 10, _ => fun W => by go_simp; rfl
  | 11, _ => fun W => by go_simp; rfl
  | k + 12, h => by omega

set_option maxRecDepth 100000 in
set_option maxHeartbeats 8000000 in
theorem f9_any (D s : Int) (hD : 0 ≤ D ∧ D ≤ 65535) (hs : 0 ≤ s ∧ s < 86400) {bb : Nat} (w : World) (hT : Bx w bb 26 [.func (.func 8) #[] #[]]) :
    Calls Try.prog 9 #[.int .i64 D, .int .i64 s, .pointer (some ⟨bb, 0, none⟩)] w fun e w' => ∃ (y : Int) (m : Nat) (dd : Int), 1970 ≤ y ∧ y ≤ 2149 ∧ m < 12 ∧ 0 ≤ dd ∧ dd < mlen (feb y) m ∧ dd + msum (feb y) m + ahead y = D ∧ Wrote w w' e y m dd s := by
  obtain ⟨hD0, hD1⟩ := hD
  obtain ⟨hs0, hs1⟩ := hs
  go_enter Try.func9, Try.ntmps9
  iterate 6 go_step
  generalize hw1 : World.alloc w _ = w1
  have hE : Ext w w1 := hw1 ▸ OnS.alloc w _
  have hR1 : Bx w1 w.heap.size 28 [.int .u8 0, .slice none 0 0] := hw1 ▸ Bx.new w [.int .u8 0, .slice none 0 0] 28
  have hT1 := hT.to hE trivial
  clear hw1
  go_upto_block 0 with (fail)
  go_cut [0, 6, 7] from 11 to 31 (fun v0 v6 v7 wx => ∃ d y : Int, v0 = .int .i64 d ∧ v6 = .int .i64 y ∧ 1970 ≤ y ∧ 0 ≤ d ∧ d < (if isLeap y then 366 else 365) ∧ d + ahead y = D ∧ wx = w1)
  case first =>
    go_wp2_with fail
    go_loop [0, 6] (fun v0 v6 => ∃ d y : Int, v0 = .int .i64 d ∧ v6 = .int .i64 y ∧ 1970 ≤ y ∧ 0 ≤ d ∧ d + ahead y = D) (fun v0 _ => (intOf v0).toNat)
    case atStart => exact ⟨D, 1970, rfl, rfl, by omega, hD0, by unfold ahead; omega⟩
    case round =>
      obtain ⟨d, y, rfl, rfl, hy, hd, hsum⟩ := hrel
      have hyb : y ≤ 2200 := by have := ahead_big y hy; omega
      have hdb : d ≤ 65535 := by have := ahead_big y hy; omega
      have hsucc := ahead_succ y
      have r4 : Int.tmod y 4 = y % 4 := Int.tmod_eq_emod_of_nonneg (by omega)
      have r100 : Int.tmod y 100 = y % 100 := Int.tmod_eq_emod_of_nonneg (by omega)
      have r400 : Int.tmod y 400 = y % 400 := Int.tmod_eq_emod_of_nonneg (by omega)
      by_cases h1 : y % 4 = 0
      · by_cases h2 : y % 100 = 0
        · by_cases h3 : y % 400 = 0
          · skip
            have hl : isLeap y := by unfold isLeap; omega
            rw [if_pos hl] at hsucc
            have HS := Lib.hid (And.intro hsum (And.intro hsucc hl))
            clear hsum hsucc hl
            by_cases hlt : d < 366
            · repeat' (first | go_values | go_skip | go_guarded | go_step)
              go_meet
              case rel => exact ⟨d, y, rfl, rfl, hy, hd, by rw [if_pos HS.out.2.2]; exact hlt, HS.out.1, rfl⟩
            · repeat' (first | go_values | go_skip | go_guarded | go_step)
              refine ⟨⟨d - 366, y + 1, rfl, rfl, by omega, by omega, ?_⟩, ?_⟩
              · have h7 := HS.out.1; have h8 := HS.out.2.1; omega
              · simp [intOf]; omega
          · skip
            have hl : ¬ isLeap y := by unfold isLeap; omega
            rw [if_neg hl] at hsucc
            have HS := Lib.hid (And.intro hsum (And.intro hsucc hl))
            clear hsum hsucc hl
            by_cases hlt : d < 365
            · repeat' (first | go_values | go_skip | go_guarded | go_step)
              go_meet
              case rel => exact ⟨d, y, rfl, rfl, hy, hd, by rw [if_neg HS.out.2.2]; exact hlt, HS.out.1, rfl⟩
            · repeat' (first | go_values | go_skip | go_guarded | go_step)
              refine ⟨⟨d - 365, y + 1, rfl, rfl, by omega, by omega, ?_⟩, ?_⟩
              · have h7 := HS.out.1; have h8 := HS.out.2.1; omega
              · simp [intOf]; omega
        · skip
          have hl : isLeap y := by unfold isLeap; omega
          rw [if_pos hl] at hsucc
          have HS := Lib.hid (And.intro hsum (And.intro hsucc hl))
          clear hsum hsucc hl
          by_cases hlt : d < 366
          · repeat' (first | go_values | go_skip | go_guarded | go_step)
            go_meet
            case rel => exact ⟨d, y, rfl, rfl, hy, hd, by rw [if_pos HS.out.2.2]; exact hlt, HS.out.1, rfl⟩
          · repeat' (first | go_values | go_skip | go_guarded | go_step)
            refine ⟨⟨d - 366, y + 1, rfl, rfl, by omega, by omega, ?_⟩, ?_⟩
            · have h7 := HS.out.1; have h8 := HS.out.2.1; omega
            · simp [intOf]; omega
      · have h3 : ¬ y % 400 = 0 := by omega
        have hl : ¬ isLeap y := by unfold isLeap; omega
        rw [if_neg hl] at hsucc
        have HS := Lib.hid (And.intro hsum (And.intro hsucc hl))
        clear hsum hsucc hl
        by_cases hlt : d < 365
        · repeat' (first | go_values | go_skip | go_guarded | go_step)
          go_meet
          case rel => exact ⟨d, y, rfl, rfl, hy, hd, by rw [if_neg HS.out.2.2]; exact hlt, HS.out.1, rfl⟩
        · repeat' (first | go_values | go_skip | go_guarded | go_step)
          refine ⟨⟨d - 365, y + 1, rfl, rfl, by omega, by omega, ?_⟩, ?_⟩
          · have h7 := HS.out.1; have h8 := HS.out.2.1; omega
          · simp [intOf]; omega
  case rest =>
    obtain ⟨d0, y, rfl, rfl, hy, hd0, hdl, hsum, rfl⟩ := hcut
    have hyb : y ≤ 2149 := by have := ahead_big y hy; omega
    clear hD0 hD1
    have hfe : feb y = 28 ∨ feb y = 29 := by unfold feb; split <;> simp
    have hdl2 : d0 < msum (feb y) 12 := by rw [msum12]; unfold feb; split at hdl <;> simp_all <;> omega
    have hd365 : d0 ≤ 365 := by split at hdl <;> omega
    have HDL := Lib.hid (And.intro hdl2 hsum)
    clear hdl hdl2 hsum
    go_upto_block 2 with (fail)
    go_cut [0, 8, 9] from 32 to 60 (fun v0 v8 v9 wx => ∃ (dd : Int) (m : Nat), v0 = .int .i64 dd ∧ v8 = .int .i64 (m + 1) ∧ m < 12 ∧ 0 ≤ dd ∧ dd < mlen (feb y) m ∧ dd + msum (feb y) m = d0 ∧ wx = wc)
    case first =>
      go_wp2_with fail
      go_loop [0, 8] (fun v0 v8 => ∃ (dd : Int) (m : Nat), v0 = .int .i64 dd ∧ v8 = .int .i64 (m + 1) ∧ m < 12 ∧ 0 ≤ dd ∧ dd + msum (feb y) m = d0) (fun v0 _ => (intOf v0).toNat)
      case atStart => exact ⟨d0, 0, rfl, rfl, by omega, hd0, by simp [msum]⟩
      case round =>
        obtain ⟨dd, m, rfl, rfl, hm, hdd, hms⟩ := hrel
        have hsr := (msum_range (feb y) (by omega) m).1
        have hddb : dd ≤ 366 := by omega
        have hmI : (m : Int) ≤ 11 := by omega
        have hmm : (m : Int) + 1 - 1 = m := by omega
        have hix := mlen_idxI m hm
        have r4 : Int.tmod y 4 = y % 4 := Int.tmod_eq_emod_of_nonneg (by omega)
        have r100 : Int.tmod y 100 = y % 100 := Int.tmod_eq_emod_of_nonneg (by omega)
        have r400 : Int.tmod y 400 = y % 400 := Int.tmod_eq_emod_of_nonneg (by omega)
        have hnext : msum (feb y) (m + 1) = msum (feb y) m + mlen (feb y) m := rfl
        by_cases hm1 : m = 1
        · have hm2 : ((m : Int) + 1 == 2) = true := by simp only [beq_iff_eq]; omega
          have hl1 : mlen (feb y) m = feb y := by rw [hm1]; rfl
          rw [hl1] at hnext
          have e28 : mlen 28 m = 28 := by rw [hm1]; rfl
          rw [e28] at hix
          have HM1 := Lib.hid (And.intro hl1 hm1)
          clear hl1 e28 hm1
          by_cases h1 : y % 4 = 0
          · by_cases h2 : y % 100 = 0
            · by_cases h3 : y % 400 = 0
              · skip
                have hl : feb y = 29 := by rw [feb_eq]; exact if_pos (by unfold isLeap; omega)
                rw [hl] at hnext
                have HS := Lib.hid (And.intro hms (And.intro hnext hl))
                clear hms hnext hl hsr hfe
                by_cases hlt : dd < 29
                · repeat' (first | go_values | go_skip | go_guarded | go_step)
                  go_meet
                  case rel => exact ⟨dd, m, rfl, rfl, hm, hdd, by rw [HM1.out.1, HS.out.2.2]; exact hlt, HS.out.1, rfl⟩
                · repeat' (first | go_values | go_skip | go_guarded | go_step)
                  have hm1 := HM1.out.2
                  refine ⟨⟨dd - 29, m + 1, rfl, by simp, by omega, by omega, ?_⟩, ?_⟩
                  · have h7 := HS.out.1; have h8 := HS.out.2.1; rw [HS.out.2.2] at h7 ⊢; omega
                  · simp [intOf]; omega
              · skip
                have hl : feb y = 28 := by rw [feb_eq]; exact if_neg (by unfold isLeap; omega)
                rw [hl] at hnext
                have HS := Lib.hid (And.intro hms (And.intro hnext hl))
                clear hms hnext hl hsr hfe
                by_cases hlt : dd < 28
                · repeat' (first | go_values | go_skip | go_guarded | go_step)
                  go_meet
                  case rel => exact ⟨dd, m, rfl, rfl, hm, hdd, by rw [HM1.out.1, HS.out.2.2]; exact hlt, HS.out.1, rfl⟩
                · repeat' (first | go_values | go_skip | go_guarded | go_step)
                  have hm1 := HM1.out.2
                  refine ⟨⟨dd - 28, m + 1, rfl, by simp, by omega, by omega, ?_⟩, ?_⟩
                  · have h7 := HS.out.1; have h8 := HS.out.2.1; rw [HS.out.2.2] at h7 ⊢; omega
                  · simp [intOf]; omega
            · skip
              have hl : feb y = 29 := by rw [feb_eq]; exact if_pos (by unfold isLeap; omega)
              rw [hl] at hnext
              have HS := Lib.hid (And.intro hms (And.intro hnext hl))
              clear hms hnext hl hsr hfe
              by_cases hlt : dd < 29
              · repeat' (first | go_values | go_skip | go_guarded | go_step)
                go_meet
                case rel => exact ⟨dd, m, rfl, rfl, hm, hdd, by rw [HM1.out.1, HS.out.2.2]; exact hlt, HS.out.1, rfl⟩
              · repeat' (first | go_values | go_skip | go_guarded | go_step)
                have hm1 := HM1.out.2
                refine ⟨⟨dd - 29, m + 1, rfl, by simp, by omega, by omega, ?_⟩, ?_⟩
                · have h7 := HS.out.1; have h8 := HS.out.2.1; rw [HS.out.2.2] at h7 ⊢; omega
                · simp [intOf]; omega
          · have h3 : ¬ y % 400 = 0 := by omega
            have hl : feb y = 28 := by rw [feb_eq]; exact if_neg (by unfold isLeap; omega)
            rw [hl] at hnext
            have HS := Lib.hid (And.intro hms (And.intro hnext hl))
            clear hms hnext hl hsr hfe
            by_cases hlt : dd < 28
            · repeat' (first | go_values | go_skip | go_guarded | go_step)
              go_meet
              case rel => exact ⟨dd, m, rfl, rfl, hm, hdd, by rw [HM1.out.1, HS.out.2.2]; exact hlt, HS.out.1, rfl⟩
            · repeat' (first | go_values | go_skip | go_guarded | go_step)
              have hm1 := HM1.out.2
              refine ⟨⟨dd - 28, m + 1, rfl, by simp, by omega, by omega, ?_⟩, ?_⟩
              · have h7 := HS.out.1; have h8 := HS.out.2.1; rw [HS.out.2.2] at h7 ⊢; omega
              · simp [intOf]; omega
        · skip
          have hm2 : ((m : Int) + 1 == 2) = false := by simp only [beq_eq_false_iff_ne, ne_eq]; omega
          have hle : mlen 28 m = mlen (feb y) m := by unfold mlen; split <;> first | rfl | omega
          rw [hle] at hix
          have hmr := mlen_range (feb y) (by omega) m
          have hmp : 28 ≤ mlen (feb y) m := by unfold mlen; split <;> omega
          have h12 : m = 11 → dd < mlen (feb y) m := by
            rintro rfl
            have := HDL.out.1
            have h9 : msum (feb y) 12 = msum (feb y) 11 + mlen (feb y) 11 := rfl
            omega
          obtain ⟨l, hl⟩ : ∃ l, mlen (feb y) m = l := ⟨_, rfl⟩
          rw [hl] at hix hmr hmp hnext h12
          have HS := Lib.hid (And.intro hms (And.intro hnext (And.intro hl h12)))
          clear hms hnext hl hle h12 hsr hfe
          by_cases hlt : dd < l
          · repeat' (first | go_values | go_skip | go_guarded | go_step)
            go_meet
            case rel => exact ⟨dd, m, rfl, rfl, hm, hdd, by rw [HS.out.2.2.1]; exact hlt, HS.out.1, rfl⟩
          · repeat' (first | go_values | go_skip | go_guarded | go_step)
            have h5 := HS.out.2.2.2
            refine ⟨⟨dd - l, m + 1, rfl, by simp, by omega, by omega, ?_⟩, ?_⟩
            · have h7 := HS.out.1; have h8 := HS.out.2.1; omega
            · simp [intOf]; omega
    case rest =>
      obtain ⟨dd, m, rfl, rfl, hm, hdd, hddl, hms, rfl⟩ := hcut
      have r100 : Int.tmod y 100 = y % 100 := Int.tmod_eq_emod_of_nonneg (by omega)
      have q3600 : Int.tdiv s 3600 = s / 3600 := Int.tdiv_eq_ediv_of_nonneg (by omega)
      have q60 : Int.tdiv s 60 = s / 60 := Int.tdiv_eq_ediv_of_nonneg (by omega)
      have r60 : Int.tmod (s / 60) 60 = s / 60 % 60 := Int.tmod_eq_emod_of_nonneg (by omega)
      have r60s : Int.tmod s 60 = s % 60 := Int.tmod_eq_emod_of_nonneg (by omega)
      have hmI : (m : Int) ≤ 11 := by omega
      have hml : mlen (feb y) m ≤ 31 := (mlen_range (feb y) (by omega) m).2
      have hdd1 : dd ≤ 30 := by omega
      have HF := Lib.hid (And.intro hddl hms)
      clear hddl hms hml hfe
      have hcT := hT1.cell 0
      have dsz : ∀ v, (digs (dg v)).size = 2 := fun _ => rfl
      have W1 : IntKind.i64.wrap (dd + 1) = dd + 1 := IntWalk.i64_in _ (by omega)
      have W2 : IntKind.i64.wrap (s / 3600) = s / 3600 := IntWalk.i64_in _ (by omega)
      have W3 : IntKind.i64.wrap (s / 60) = s / 60 := IntWalk.i64_in _ (by omega)
      have W4 : IntKind.i64.wrap (s / 60 % 60) = s / 60 % 60 := IntWalk.i64_in _ (by omega)
      have W5 : IntKind.i64.wrap (s % 60) = s % 60 := IntWalk.i64_in _ (by omega)
      have W6 : IntKind.i64.wrap (y % 100) = y % 100 := IntWalk.i64_in _ (by omega)
      simp only [List.getElem?_cons_zero] at hcT
      repeat' (first | go_values | go_skip | go_guarded | go_step)
      refine region_ms (by kernel_rfl) 30 (by kernel_rfl) (by decide) ?_
      simp only [List.take_succ_cons, List.take_zero, List.drop_succ_cons, List.drop_zero]
      refine ms_val (.func (.func 8) #[] #[]) rfl (fun ρ W hE' hh => by have e0 := hE'.cell hcT trivial; simp [toldE, lk, Op.operands, Act.eval] at hh; go_simp) ?_
      refine ms_val (.int .i64 (y)) rfl (fun ρ W hE' hh => by simp [toldE, lk, Op.operands, Act.eval] at hh; go_simp) ?_
      refine ms_val (.int .i64 (y % 100)) rfl (fun ρ W hE' hh => by simp [toldE, lk, Op.operands, Act.eval] at hh; go_simp) ?_
      refine ms_any (fun v _ => v = .string (digs (dg (y % 100)))) rfl (fun _ _ _ _ h => h) (fun ρ W hE' hh => ?_) ?_
      · simp [toldE, lk, Op.operands, Call.operands, Act.eval] at hh
        refine runs_call (f := 8) (args := #[.int .i64 (y % 100)]) (by go_simp) ((two_any (y % 100) (by omega) (by omega) W).mono ?_)
        rintro e w2 ⟨rfl, h⟩
        exact ⟨_, rfl, h, rfl⟩
      refine ms_val (.func (.func 8) #[] #[]) rfl (fun ρ W hE' hh => by have e0 := hE'.cell hcT trivial; simp [toldE, lk, Op.operands, Act.eval] at hh; go_simp) ?_
      refine ms_val (.int .i64 ((m : Int) + 1)) rfl (fun ρ W hE' hh => by simp [toldE, lk, Op.operands, Act.eval] at hh; go_simp) ?_
      refine ms_any (fun v _ => v = .string (digs (dg ((m : Int) + 1)))) rfl (fun _ _ _ _ h => h) (fun ρ W hE' hh => ?_) ?_
      · simp [toldE, lk, Op.operands, Call.operands, Act.eval] at hh
        refine runs_call (f := 8) (args := #[.int .i64 ((m : Int) + 1)]) (by go_simp) ((two_any ((m : Int) + 1) (by omega) (by omega) W).mono ?_)
        rintro e w2 ⟨rfl, h⟩
        exact ⟨_, rfl, h, rfl⟩
      refine ms_val (.string (digs (dg (y % 100)) ++ digs (dg ((m : Int) + 1)))) rfl (fun ρ W hE' hh => by simp [toldE, lk, Op.operands, Act.eval] at hh; go_simp) ?_
      refine ms_val (.func (.func 8) #[] #[]) rfl (fun ρ W hE' hh => by have e0 := hE'.cell hcT trivial; simp [toldE, lk, Op.operands, Act.eval] at hh; go_simp) ?_
      refine ms_val (.int .i64 (dd)) rfl (fun ρ W hE' hh => by simp [toldE, lk, Op.operands, Act.eval] at hh; go_simp) ?_
      refine ms_val (.int .i64 (dd + 1)) rfl (fun ρ W hE' hh => by simp [toldE, lk, Op.operands, Act.eval] at hh; go_simp) ?_
      refine ms_any (fun v _ => v = .string (digs (dg (dd + 1)))) rfl (fun _ _ _ _ h => h) (fun ρ W hE' hh => ?_) ?_
      · simp [toldE, lk, Op.operands, Call.operands, Act.eval] at hh
        refine runs_call (f := 8) (args := #[.int .i64 (dd + 1)]) (by go_simp) ((two_any (dd + 1) (by omega) (by omega) W).mono ?_)
        rintro e w2 ⟨rfl, h⟩
        exact ⟨_, rfl, h, rfl⟩
      refine ms_val (.string ((digs (dg (y % 100)) ++ digs (dg ((m : Int) + 1))) ++ digs (dg (dd + 1)))) rfl (fun ρ W hE' hh => by simp [toldE, lk, Op.operands, Act.eval] at hh; go_simp) ?_
      refine ms_val (.func (.func 8) #[] #[]) rfl (fun ρ W hE' hh => by have e0 := hE'.cell hcT trivial; simp [toldE, lk, Op.operands, Act.eval] at hh; go_simp) ?_
      refine ms_val (.int .i64 (s)) rfl (fun ρ W hE' hh => by simp [toldE, lk, Op.operands, Act.eval] at hh; go_simp) ?_
      refine ms_val (.int .i64 (s / 3600)) rfl (fun ρ W hE' hh => by simp [toldE, lk, Op.operands, Act.eval] at hh; go_simp) ?_
      refine ms_any (fun v _ => v = .string (digs (dg (s / 3600)))) rfl (fun _ _ _ _ h => h) (fun ρ W hE' hh => ?_) ?_
      · simp [toldE, lk, Op.operands, Call.operands, Act.eval] at hh
        refine runs_call (f := 8) (args := #[.int .i64 (s / 3600)]) (by go_simp) ((two_any (s / 3600) (by omega) (by omega) W).mono ?_)
        rintro e w2 ⟨rfl, h⟩
        exact ⟨_, rfl, h, rfl⟩
      refine ms_val (.string (((digs (dg (y % 100)) ++ digs (dg ((m : Int) + 1))) ++ digs (dg (dd + 1))) ++ digs (dg (s / 3600)))) rfl (fun ρ W hE' hh => by simp [toldE, lk, Op.operands, Act.eval] at hh; go_simp) ?_
      refine ms_val (.func (.func 8) #[] #[]) rfl (fun ρ W hE' hh => by have e0 := hE'.cell hcT trivial; simp [toldE, lk, Op.operands, Act.eval] at hh; go_simp) ?_
      refine ms_val (.int .i64 (s)) rfl (fun ρ W hE' hh => by simp [toldE, lk, Op.operands, Act.eval] at hh; go_simp) ?_
      refine ms_val (.int .i64 (s / 60)) rfl (fun ρ W hE' hh => by simp [toldE, lk, Op.operands, Act.eval] at hh; go_simp) ?_
      refine ms_val (.int .i64 (s / 60 % 60)) rfl (fun ρ W hE' hh => by simp [toldE, lk, Op.operands, Act.eval] at hh; go_simp) ?_
      refine ms_any (fun v _ => v = .string (digs (dg (s / 60 % 60)))) rfl (fun _ _ _ _ h => h) (fun ρ W hE' hh => ?_) ?_
      · simp [toldE, lk, Op.operands, Call.operands, Act.eval] at hh
        refine runs_call (f := 8) (args := #[.int .i64 (s / 60 % 60)]) (by go_simp) ((two_any (s / 60 % 60) (by omega) (by omega) W).mono ?_)
        rintro e w2 ⟨rfl, h⟩
        exact ⟨_, rfl, h, rfl⟩
      refine ms_val (.string ((((digs (dg (y % 100)) ++ digs (dg ((m : Int) + 1))) ++ digs (dg (dd + 1))) ++ digs (dg (s / 3600))) ++ digs (dg (s / 60 % 60)))) rfl (fun ρ W hE' hh => by simp [toldE, lk, Op.operands, Act.eval] at hh; go_simp) ?_
      refine ms_val (.func (.func 8) #[] #[]) rfl (fun ρ W hE' hh => by have e0 := hE'.cell hcT trivial; simp [toldE, lk, Op.operands, Act.eval] at hh; go_simp) ?_
      refine ms_val (.int .i64 (s)) rfl (fun ρ W hE' hh => by simp [toldE, lk, Op.operands, Act.eval] at hh; go_simp) ?_
      refine ms_val (.int .i64 (s % 60)) rfl (fun ρ W hE' hh => by simp [toldE, lk, Op.operands, Act.eval] at hh; go_simp) ?_
      refine ms_any (fun v _ => v = .string (digs (dg (s % 60)))) rfl (fun _ _ _ _ h => h) (fun ρ W hE' hh => ?_) ?_
      · simp [toldE, lk, Op.operands, Call.operands, Act.eval] at hh
        refine runs_call (f := 8) (args := #[.int .i64 (s % 60)]) (by go_simp) ((two_any (s % 60) (by omega) (by omega) W).mono ?_)
        rintro e w2 ⟨rfl, h⟩
        exact ⟨_, rfl, h, rfl⟩
      refine ms_val (.string (((((digs (dg (y % 100)) ++ digs (dg ((m : Int) + 1))) ++ digs (dg (dd + 1))) ++ digs (dg (s / 3600))) ++ digs (dg (s / 60 % 60))) ++ digs (dg (s % 60)))) rfl (fun ρ W hE' hh => by simp [toldE, lk, Op.operands, Act.eval] at hh; go_simp) ?_
      refine ms_val (.string ((((((digs (dg (y % 100)) ++ digs (dg ((m : Int) + 1))) ++ digs (dg (dd + 1))) ++ digs (dg (s / 3600))) ++ digs (dg (s / 60 % 60))) ++ digs (dg (s % 60))) ++ { data := #[90] })) rfl (fun ρ W hE' hh => by simp [toldE, lk, Op.operands, Act.eval] at hh; go_simp) ?_
      intro W hE'
      simp only [FinE]
      rintro _ rfl _ rfl _ rfl _ rfl _ rfl _ rfl _ rfl _ rfl _ rfl _ rfl _ rfl _ rfl _ rfl _ rfl _ rfl _ rfl _ rfl _ rfl _ rfl _ rfl _ rfl _ rfl _ rfl _ rfl _ rfl _ rfl _ rfl _ rfl _ rfl _ rfl
      simp only [Act.put, List.setIfInBounds_toArray, List.set_cons_zero, List.set_cons_succ]
      simp only [digs_append, digs_Z]
      obtain ⟨ds, hds⟩ : ∃ ds, stamp y m dd s = ds := ⟨_, rfl⟩
      have hds' := hds
      unfold stamp at hds'
      simp only [hds']
      clear hds'
      have hdl : ds.length = 12 := by rw [← hds]; rfl
      have hdr : ∀ x ∈ ds, 0 ≤ x ∧ x ≤ 9 := by rw [← hds]; exact stamp_range (by omega) hmI hdd hdd1 hs0 hs1
      have hzr := zs_range hdr
      have hzl : (ds.map (48 + ·) ++ [90]).length = 13 := by simp [hdl]
      have HZ := Lib.hid (And.intro hzl (And.intro hdl hdr))
      clear hzl hdl hdr
      have HDS := Lib.hid hds
      have hE1 := hE.trans hE'
      have hR2 := hR1.to hE' trivial
      have hz2 := hR2.lt
      have hcv := fun (W : World) (s : ByteArray) => Lib.run_convert_string_bytes (P := Try.prog) W 9 25 5 s Try.underlying9 Try.underlying25 Try.underlying5
      clear hds dsz W1 W2 W3 W4 W5 W6 r100 q3600 q60 r60 r60s hcT
      by_cases hy50 : y < 2050
      · have hE3 := Ext.bytesWorld W 5 (strOfNums (ds.map (48 + ·) ++ [90]))
        have hR3 := hR2.to hE3 trivial
        have c0 := hR3.cell 0
        have c1 := hR3.cell 1
        have f0 := hR3.frozen 0
        have f1 := hR3.frozen 1
        simp only [List.getElem?_cons_zero, List.getElem?_cons_succ] at c0 c1
        repeat' (first | go_values | go_skip | go_guarded | go_step)
        have hR4 := (hR3.set 0 (.int .u8 23)).set 1 (.slice (some ⟨W.heap.size, 0, none⟩) (strOfNums (ds.map (48 + ·) ++ [90])).size (grownCap W (strOfNums (ds.map (48 + ·) ++ [90])).size 0 5))
        have c0 := hR4.cell 0
        have c1 := hR4.cell 1
        have c2 := (hR3.set 0 (.int .u8 23)).cell 0
        simp only [List.set_cons_zero, List.set_cons_succ, List.getElem?_cons_zero, List.getElem?_cons_succ] at c0 c1 c2
        have hsz : (strOfNums (ds.map (48 + ·) ++ [90])).size = 13 := by rw [strOfNums_size]; exact HZ.out.1
        have hS := SR.ofStr (S := (· = W.heap.size)) W _ hzr (by rw [HZ.out.1]; omega) rfl
        rw [HZ.out.1] at hS
        have hOS : OnS (· ≠ w.heap.size) (Lib.bytesWorld W 5 (strOfNums (ds.map (48 + ·) ++ [90]))) (((Lib.bytesWorld W 5 (strOfNums (ds.map (48 + ·) ++ [90]))).setCell ⟨w.heap.size, 0, none⟩ (.int .u8 23)).setCell ⟨w.heap.size, 1, none⟩ (.slice (some ⟨W.heap.size, 0, none⟩) (strOfNums (ds.map (48 + ·) ++ [90])).size (grownCap W (strOfNums (ds.map (48 + ·) ++ [90])).size 0 5))) :=
          (OnS.setCell _ ⟨w.heap.size, 0, none⟩ _).trans (OnS.setCell _ ⟨w.heap.size, 1, none⟩ _)
        have hSR := (hS.mono (OnS.weaken hOS (fun k _ hk => by omega))).weaken (S' := fun _ => True) (by decide) (fun _ _ _ => trivial)
        have hEE := OnS.since (hE1.trans hE3) hOS (fun i hi _ => by omega)
        refine bodyPost_ret (v := .agg #[.int .u8 23, .slice (some ⟨W.heap.size, 0, none⟩) 13 (grownCap W (strOfNums (ds.map (48 + ·) ++ [90])).size 0 5)]) ?_ rfl ?_
        · rw [hsz] at c1 ⊢
          simp [results, Try.results9, go_sem, c0, c1, c2]
        · refine ⟨y, m, dd, hy, hyb, hm, hdd, HF.out.1, by rw [HF.out.2]; exact HDL.out.2, ⟨some ⟨W.heap.size, 0, none⟩, grownCap W (strOfNums (ds.map (48 + ·) ++ [90])).size 0 5, ?_, hEE⟩⟩
          rw [if_pos hy50, HDS.out]
          exact ⟨rfl, hSR⟩
      · have hcT := (hT1.to hE' trivial).cell 0
        simp only [List.getElem?_cons_zero] at hcT
        have q100 : Int.tdiv y 100 = y / 100 := Int.tdiv_eq_ediv_of_nonneg (by omega)
        repeat' (first | go_values | go_skip | go_guarded | go_step)
        refine (two_any (y / 100) (by omega) (by omega) W).mono ?_
        rintro e W2 ⟨rfl, hE2⟩
        dsimp only
        have hsz2 : (digs (dg (y / 100))).size = 2 := rfl
        have hszs : (strOfNums (ds.map (48 + ·) ++ [90])).size = 13 := by rw [strOfNums_size]; exact HZ.out.1
        have hcat := digs_Z2 (dg (y / 100)) ds
        obtain ⟨xs, hxs⟩ : ∃ xs, (dg (y / 100) ++ ds).map (48 + ·) ++ [90] = xs := ⟨_, rfl⟩
        rw [hxs] at hcat
        have hxl : xs.length = 15 := by rw [← hxs]; simp [HZ.out.2.1, dg]
        have hxr : ∀ x ∈ xs, 0 ≤ x ∧ x ≤ 255 := by
          rw [← hxs]
          refine zs_range fun x hx => ?_
          rcases List.mem_append.1 hx with h | h
          · exact dg_range (by omega) (by omega) x h
          · exact HZ.out.2.2 x h
        have hsz : (strOfNums xs).size = 15 := by rw [strOfNums_size]; exact hxl
        have hE3 := Ext.bytesWorld W2 5 (strOfNums xs)
        have hR3 := (hR2.to hE2 trivial).to hE3 trivial
        have c0 := hR3.cell 0
        have c1 := hR3.cell 1
        have f0 := hR3.frozen 0
        have f1 := hR3.frozen 1
        have HX := Lib.hid hxs
        have HXL := Lib.hid hxl
        clear hxs hxl
        simp only [List.getElem?_cons_zero, List.getElem?_cons_succ] at c0 c1
        repeat' (first | go_values | go_skip | go_guarded | go_step)
        have hR4 := (hR3.set 0 (.int .u8 24)).set 1 (.slice (some ⟨W2.heap.size, 0, none⟩) 15 (grownCap W2 15 0 5))
        have c1 := hR4.cell 1
        have c2 := (hR3.set 0 (.int .u8 24)).cell 0
        simp only [List.set_cons_zero, List.set_cons_succ, List.getElem?_cons_zero, List.getElem?_cons_succ] at c1 c2
        have hS := SR.ofStr (S := (· = W2.heap.size)) W2 _ hxr (by rw [HXL.out]; omega) rfl
        have hz3 := hE2.size
        rw [HXL.out, hsz] at hS
        have hOS : OnS (· ≠ w.heap.size) (Lib.bytesWorld W2 5 (strOfNums xs)) (((Lib.bytesWorld W2 5 (strOfNums xs)).setCell ⟨w.heap.size, 0, none⟩ (.int .u8 24)).setCell ⟨w.heap.size, 1, none⟩ (.slice (some ⟨W2.heap.size, 0, none⟩) 15 (grownCap W2 15 0 5))) :=
          (OnS.setCell _ ⟨w.heap.size, 0, none⟩ _).trans (OnS.setCell _ ⟨w.heap.size, 1, none⟩ _)
        have hSR := (hS.mono (OnS.weaken hOS (fun k _ hk => by omega))).weaken (S' := fun _ => True) (by decide) (fun _ _ _ => trivial)
        have hEE := OnS.since ((hE1.trans hE2).trans hE3) hOS (fun i hi _ => by omega)
        refine bodyPost_ret (v := .agg #[.int .u8 24, .slice (some ⟨W2.heap.size, 0, none⟩) 15 (grownCap W2 15 0 5)]) ?_ rfl ?_
        · try rw [hsz]
          simp [results, Try.results9, go_sem, c1, c2]
        · try rw [hsz]
          refine ⟨y, m, dd, hy, hyb, hm, hdd, HF.out.1, by rw [HF.out.2]; exact HDL.out.2, ⟨some ⟨W2.heap.size, 0, none⟩, grownCap W2 15 0 5, ?_, hEE⟩⟩
          rw [if_neg hy50, HDS.out, HX.out]
          exact ⟨rfl, hSR⟩
end Go.Proofs.Ytikekdifipacmaa
