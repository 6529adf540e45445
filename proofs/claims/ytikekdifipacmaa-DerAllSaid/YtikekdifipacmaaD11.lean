import Derived.Test.YtikekdifipacmaaD10
import Derived.Test.YtikekdifipacmaaK5
import Derived.IntWalk
namespace Go.Proofs.Ytikekdifipacmaa
open Go.RowKit

/-- A piece of a list, as the walk wants it. -/
theorem SR.idxTlv {w : World} {S : Nat → Prop} {A : Option Addr} {n c : Nat} {xs : List (Int × List Int)} (H : SR S w tTlv A n c xs) (iv : Int) (i : Nat) (ei : iv = i) (hlt : i < n) :
    ∃ b o A' n' c' x, xs[i]? = some x ∧ (∀ W : World, (Instr.indexAt 36 (.slice A n c) (.int .i64 iv)).run Try.prog W = .ok (.pointer (some ⟨b, o, none⟩)) W) ∧ S b ∧ w.cell? ⟨b, o, none⟩ = some (.int .u8 x.1) ∧ w.cell? ⟨b, o + 1, none⟩ = some (.slice A' n' c') ∧ SR S w tU8 A' n' c' x.2 := by
  obtain ⟨ad0, cs0, hA, hs0, -, -⟩ := H.at i hlt
  have hsp0 : ad0.spot = none := by
    obtain ⟨_, _, _, _, _, ds, _, h4⟩ := H
    exact (h4 ad0 hA (by omega)).2.1
  obtain ⟨b0, o0, s0⟩ := ad0
  simp only at hsp0
  subst hsp0
  subst hA
  obtain ⟨ad, cs, h1, hs, ⟨A', n', c', rfl, h2⟩, hc⟩ := H.idx (P := Try.prog) Try.underlying36 Try.size28 .i64 iv i ei hlt
  have hcp := H.cap
  have h1' : (Instr.indexAt 36 (.slice (some ⟨b0, o0, none⟩) n c) (.int .i64 iv)).run Try.prog w = .ok (.pointer (some ⟨b0, o0 + i * 2, none⟩)) w := by
    subst ei
    obtain ⟨i0, hi0, hz⟩ := Option.map_eq_some_iff.1 Try.size28
    simp [Instr.indexAt, run_underlying Try.underlying36, asIntOf, sizeOf, typeInfo, hi0, hz, hlt, Addr.add]
  have hsp : ad = ⟨b0, o0 + i * 2, none⟩ := by
    have h3 := (h1 w).symm.trans h1'
    simpa using h3
  subst hsp
  have h4 : i < xs.length := by rw [H.len]; exact hlt
  refine ⟨b0, o0 + i * 2, A', n', c', xs[i], List.getElem?_eq_getElem h4, h1, hs, ?_, ?_, h2⟩
  · exact hc 0 (by simp)
  · exact hc 1 (by simp)

theorem beq_lists {xs ys : List (Int × List Int)} {k n : Nat} (hx : xs.length = n) (hy : ys.length = n) (hk : n ≤ k) (h : xs.take k = ys.take k) : (xs == ys) = true := by
  rw [List.take_of_length_le (by omega), List.take_of_length_le (by omega)] at h
  simp [h]

set_option maxHeartbeats 1000000 in
theorem sameLists_any {S S' : Nat → Prop} {A B : Option Addr} {n c m d : Nat} {xs ys : List (Int × List Int)} (w : World) (HA : SR S w tTlv A n c xs) (HB : SR S' w tTlv B m d ys) :
    Calls Try.prog 17 #[.slice A n c, .slice B m d] w fun e w' => e = .returned (.bool (xs == ys)) ∧ Ext w w' := by
  have hl := HA.len
  have hm := HB.len
  have hs := HA.small
  by_cases hnm : n = m
  · subst hnm
    have h1 : ((n : Int) != n) = false := by simp
    go_enter Try.func17, Try.ntmps17
    repeat' go_step
    go_loopw [5] (fun i wr => ∃ k : Nat, k ≤ n ∧ i = .int .i64 k ∧ Ext w wr ∧ xs.take k = ys.take k) (fun i _ => n - (intOf i).toNat)
    case atStart => exact ⟨0, by omega, rfl, OnS.refl _ w, by simp⟩
    case round =>
      obtain ⟨k, hk, rfl, hE, ht⟩ := hrel
      by_cases hkn : k < n
      · obtain ⟨b1, o1, A1, n1, c1, x, hx, hi, hs1, hc0, hc1, hX⟩ := (HA.mono (OnS.ext hE)).idxTlv k k rfl hkn
        obtain ⟨b2, o2, A2, n2, c2, y, hy, hi2, hs2, hd0, hd1, hY⟩ := (HB.mono (OnS.ext hE)).idxTlv k k rfl hkn
        have HX := Lib.hid hx
        have HY := Lib.hid hy
        clear hx hy
        repeat' go_step
        refine region_ms (by kernel_rfl) 10 (by kernel_rfl) (by decide) ?_
        simp only [List.take_succ_cons, List.take_zero, List.drop_succ_cons, List.drop_zero]
        refine ms_val (.slice A n c) rfl (fun ρ W hE' hh => by simp [toldE, lk, Op.operands, Act.eval] at hh; go_simp) ?_
        refine ms_val (.int .i64 k) rfl (fun ρ W hE' hh => by simp [toldE, lk, Op.operands, Act.eval] at hh; go_simp) ?_
        refine ms_val (.pointer (some ⟨b1, o1, none⟩)) rfl (fun ρ W hE' hh => by simp [toldE, lk, Op.operands, Act.eval] at hh; go_simp) ?_
        refine ms_val (.agg #[.int .u8 x.1, .slice A1 n1 c1]) rfl (fun ρ W hE' hh => by have e0 := hE'.cell hc0 trivial; have e1 := hE'.cell hc1 trivial; simp [toldE, lk, Op.operands, Act.eval] at hh; go_simp) ?_
        refine ms_val (.slice B n d) rfl (fun ρ W hE' hh => by simp [toldE, lk, Op.operands, Act.eval] at hh; go_simp) ?_
        refine ms_val (.int .i64 k) rfl (fun ρ W hE' hh => by simp [toldE, lk, Op.operands, Act.eval] at hh; go_simp) ?_
        refine ms_val (.pointer (some ⟨b2, o2, none⟩)) rfl (fun ρ W hE' hh => by simp [toldE, lk, Op.operands, Act.eval] at hh; go_simp) ?_
        refine ms_val (.agg #[.int .u8 y.1, .slice A2 n2 c2]) rfl (fun ρ W hE' hh => by have e0 := hE'.cell hd0 trivial; have e1 := hE'.cell hd1 trivial; simp [toldE, lk, Op.operands, Act.eval] at hh; go_simp) ?_
        refine ms_any (fun v _ => v = .bool (x.1 == y.1 && x.2 == y.2)) rfl (fun _ _ _ _ h => h) (fun ρ W hE' hh => ?_) ?_
        · simp [toldE, lk, Op.operands, Call.operands, Act.eval] at hh
          refine runs_call (f := 16) (args := #[.agg #[.int .u8 x.1, .slice A1 n1 c1], .agg #[.int .u8 y.1, .slice A2 n2 c2]]) (by go_simp) ((same_any x.1 y.1 W (hX.mono (OnS.ext hE')) (hY.mono (OnS.ext hE'))).mono ?_)
          rintro e w2 ⟨rfl, h⟩
          exact ⟨_, rfl, h, rfl⟩
        refine ms_val (.bool (!(x.1 == y.1 && x.2 == y.2))) rfl (fun ρ W hE' hh => by simp [toldE, lk, Op.operands, Act.eval] at hh; go_simp) ?_
        intro W hE'
        simp only [FinE]
        rintro _ rfl _ rfl _ rfl _ rfl _ rfl _ rfl _ rfl _ rfl _ rfl _ rfl
        simp only [Act.put, List.setIfInBounds_toArray, List.set_cons_zero, List.set_cons_succ]
        have hxy : (x.1 == y.1 && x.2 == y.2) = (x == y) := rfl
        rw [hxy]
        by_cases he : x = y
        · have heb : (x == y) = true := by simpa using he
          rw [heb]
          have HEQ := Lib.hid he
          clear he
          repeat' go_step
          go_roundw
          case rel => exact ⟨k + 1, by omega, by go_num, hE.trans hE', by rw [List.take_add_one, List.take_add_one, HX.out, HY.out, ht, HEQ.out]⟩
          case measure => simp [intOf]; omega
        · have heb : (x == y) = false := by simpa using he
          rw [heb]
          have HEQ := Lib.hid he
          clear he
          repeat' go_step
          go_ret
          refine ⟨?_, hE.trans hE'⟩
          have : (xs == ys) = false := by
            rw [beq_eq_false_iff_ne]
            rintro rfl
            have h3 := HX.out.symm.trans HY.out
            simp at h3
            exact HEQ.out h3
          rw [this]; rfl
      · repeat' go_step
        go_ret
        exact ⟨by rw [beq_lists hl hm (by omega) ht]; rfl, hE⟩
  · have h1 : ((n : Int) != m) = true := by rw [bne_iff_ne]; omega
    go_enter Try.func17, Try.ntmps17
    repeat' go_step
    go_ret
    refine ⟨?_, OnS.refl _ w⟩
    have : (xs == ys) = false := by rw [beq_eq_false_iff_ne]; rintro rfl; omega
    rw [this]; rfl
end Go.Proofs.Ytikekdifipacmaa
