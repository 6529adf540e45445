/- DerDays walked. -/
import Derived.Test.YtikekdifipacmaaD25
import Derived.Test.YtikekdifipacmaaD26
import Derived.Laws.EntriesVeiled
namespace Go.Proofs.Ytikekdifipacmaa
open Go.RowKit

set_option maxRecDepth 100000 in
set_option maxHeartbeats 4000000 in
theorem derDays_any (D S : Int) (hD0 : 0 ≤ D) (hD1 : D ≤ 65535) (hS0 : 0 ≤ S) (w : World) :
    Calls Try.prog 3 #[.int .u16 D, .int .u32 S] w fun e w' => e = .returned (.bool true) ∧ Ext w w' := by
  have r864 : Int.tmod S 86400 = S % 86400 := Int.tmod_eq_emod_of_nonneg (by omega)
  obtain ⟨s, hs⟩ : ∃ s, S % 86400 = s := ⟨_, rfl⟩
  have hs0 : 0 ≤ s := by omega
  have hs1 : s < 86400 := by omega
  rw [hs] at r864
  have HS := Lib.hid hs
  go_enter Try.func3, Try.ntmps3
  repeat' (first | go_values | go_skip | go_guarded | go_step)
  refine (awake_any w).mono ?_
  rintro e w1 ⟨rfl, hE1⟩
  dsimp only
  repeat' (first | go_values | go_skip | go_guarded | go_step)
  generalize hw2 : World.alloc w1 _ = w2
  have hE2 : Ext w1 w2 := hw2 ▸ OnS.alloc w1 _
  have hB2 : Bx w2 w1.heap.size 26 [.func (.func 8) #[] #[]] := hw2 ▸ Bx.new w1 [.func (.func 8) #[] #[]] 26
  clear hw2
  refine (f9_any D s ⟨hD0, hD1⟩ ⟨hs0, hs1⟩ w2 hB2).mono ?_
  rintro e w3 ⟨y, m, dd, hy0, hy1, hm, hd0, hd1, hsum, hW⟩
  obtain ⟨v, rfl, hE3, hT⟩ := time_any hy0 hy1 hm hd0 hd1 hs0 hs1 hW
  have hv : (aheadN y + msum (feb y) m + dd) * 86400 + s = D * 86400 + s := by
    have h1 : aheadN y = ahead y := rfl
    rw [h1]; omega
  rw [hv] at hT
  have HSUM := Lib.hid hsum
  clear hsum hv hW hd1 hs
  dsimp only
  repeat' (first | go_values | go_skip | go_guarded | go_step)
  refine hT.mono ?_
  rintro e w4 ⟨rfl, hE4⟩
  dsimp only
  have hw1 : IntKind.u64.wrap (D * 86400) = D * 86400 := IntWalk.u64_in _ (by omega)
  have hw2 : IntKind.u64.wrap (D * 86400 + s) = D * 86400 + s := IntWalk.u64_in _ (by omega)
  repeat' (first | go_values | go_skip | go_guarded | go_step)
  go_ret
  exact ⟨by simp, hE1.trans (hE2.trans (hE3.trans hE4))⟩
end Go.Proofs.Ytikekdifipacmaa
