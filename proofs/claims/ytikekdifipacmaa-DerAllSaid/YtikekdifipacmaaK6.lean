/- Small sums spelt by bits. -/
import Derived.Test.YtikekdifipacmaaK5
namespace Go.Proofs.Ytikekdifipacmaa
open Go.RowKit

theorem or_add8 (a b : Nat) (hb : b < 256) : (a * 256) ||| b = a * 256 + b := by
  have h := Nat.two_pow_add_eq_or_of_lt (i := 8) (b := b) (by omega) a
  rw [Nat.mul_comm a 256, ← h]
theorem i64_or_nat (a b : Nat) (ha : a < 9223372036854775808) (hb : b < 9223372036854775808) : bits .or .i64 (a : Int) (b : Int) = ((a ||| b : Nat) : Int) := by
  have hx : a ||| b < 2 ^ 63 := Nat.or_lt_two_pow (by omega) (by omega)
  show IntKind.i64.wrap ((BitVec.ofInt 64 (a : Int) ||| BitVec.ofInt 64 (b : Int)).toNat : Int) = _
  rw [BitVec.toNat_or, ofInt_u64 a (by omega), ofInt_u64 b (by omega)]
  generalize a ||| b = c at *
  exact IntWalk.i64_in (c : Int) (by omega)
theorem i64_or8 (a b : Int) (h0 : 0 ≤ a) (h1 : a < 1000000000000) (h2 : 0 ≤ b) (h3 : b ≤ 255) : bits .or .i64 (a * 256) b = a * 256 + b := by
  obtain ⟨A, rfl⟩ := Int.eq_ofNat_of_zero_le h0
  obtain ⟨B, rfl⟩ := Int.eq_ofNat_of_zero_le h2
  have h := i64_or_nat (A * 256) B (by omega) (by omega)
  rw [or_add8 A B (by omega)] at h
  simpa using h
theorem i64_or0 (b : Int) (h2 : 0 ≤ b) (h3 : b ≤ 255) : bits .or .i64 0 b = b := by
  have := i64_or8 0 b (by omega) (by omega) h2 h3
  simpa using this
end Go.Proofs.Ytikekdifipacmaa
