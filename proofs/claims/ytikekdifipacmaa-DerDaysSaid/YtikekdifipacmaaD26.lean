/- DerDays: the time of what stands written; the law. -/
import Derived.Test.YtikekdifipacmaaD24
import Derived.Test.YtikekdifipacmaaD16
import Derived.Test.YtikekdifipacmaaD17
import Derived.Test.YtikekdifipacmaaD22
namespace Go.Proofs.Ytikekdifipacmaa
open Go.RowKit

def aheadN (y : Int) : Int := 365 * (y - 1970) + ((y - 1) / 4 - (y - 1) / 100 + (y - 1) / 400) - 477

theorem time_any {w0 w : World} {e : Ending} {y dd s : Int} {m : Nat} (hy0 : 1970 ≤ y) (hy1 : y ≤ 2149) (hm : m < 12) (hd0 : 0 ≤ dd) (hd1 : dd < mlen (feb y) m) (hs0 : 0 ≤ s) (hs1 : s < 86400) (h : Wrote w0 w e y m dd s) :
    ∃ v, e = .returned v ∧ Ext w0 w ∧ Calls Try.prog 10 #[v] w fun e w' => e = .returned (.tuple #[.int .u64 ((aheadN y + msum (feb y) m + dd) * 86400 + s), .int .i64 0]) ∧ Ext w w' := by
  obtain ⟨A, c, h, hE⟩ := h
  have hdd : dd ≤ 30 := by
    have := (mlen_range (feb y) (by unfold feb; split <;> omega) m).2
    omega
  have hr := stamp_range (y := y) (m := m) (dd := dd) (s := s) (by omega) (by omega) hd0 hdd hs0 hs1
  by_cases h50 : y < 2050
  · rw [if_pos h50] at h
    obtain ⟨rfl, H⟩ := h
    by_cases h00 : y < 2000
    · refine ⟨_, rfl, hE, (time23_b w H hr _ _ _ _ _ _ (stamp_pairs y m dd s) m hm rfl (by omega) (by omega) (by omega) ?_ (by omega) (by omega) (by omega) (by omega) (by omega) (by omega)).mono ?_⟩
      · rw [show y % 100 + 1900 = y by omega]; omega
      · rintro e w' ⟨rfl, h⟩
        refine ⟨?_, h⟩
        rw [show y % 100 + 1900 = y by omega]
        refine congrArg (fun v => Ending.returned (.tuple #[.int .u64 v, .int .i64 0])) ?_
        unfold aheadN
        omega
    · refine ⟨_, rfl, hE, (time23_a w H hr _ _ _ _ _ _ (stamp_pairs y m dd s) m hm rfl (by omega) (by omega) (by omega) ?_ (by omega) (by omega) (by omega) (by omega) (by omega) (by omega)).mono ?_⟩
      · rw [show y % 100 + 1900 + 100 = y by omega]; omega
      · rintro e w' ⟨rfl, h⟩
        refine ⟨?_, h⟩
        rw [show y % 100 + 1900 + 100 = y by omega]
        refine congrArg (fun v => Ending.returned (.tuple #[.int .u64 v, .int .i64 0])) ?_
        unfold aheadN
        omega
  · rw [if_neg h50] at h
    obtain ⟨rfl, H⟩ := h
    have hr' : ∀ x ∈ dg (y / 100) ++ stamp y m dd s, 0 ≤ x ∧ x ≤ 9 := by
      intro x hx
      rcases List.mem_append.1 hx with h | h
      · exact dg_range (by omega) (by omega) x h
      · exact hr x h
    refine ⟨_, rfl, hE, (time24 w H hr' _ _ _ _ _ _ _ (stamp4_pairs y m dd s) m hm rfl (by omega) (by omega) (by omega) (by omega) (by omega) (by omega) ?_ (by omega) (by omega) (by omega) (by omega) (by omega) (by omega)).mono ?_⟩
    · rw [show 100 * (y / 100) + y % 100 = y by omega]; omega
    · rintro e w' ⟨rfl, h⟩
      refine ⟨?_, h⟩
      rw [show 100 * (y / 100) + y % 100 = y by omega]
      refine congrArg (fun v => Ending.returned (.tuple #[.int .u64 v, .int .i64 0])) ?_
      unfold aheadN
      omega
end Go.Proofs.Ytikekdifipacmaa
