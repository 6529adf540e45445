import Derived.Test.YtikekdifipacmaaD3
namespace Go.Proofs.Ytikekdifipacmaa
open Go.RowKit

/-- der.Read's answer, plainly: tag, body, what is left, error. -/
def derRead (b : List Int) : Int × List Int × List Int × Int :=
  if 4096 < b.length then (0, [], [], 3)
  else if b.length < 2 then (0, [], [], 30)
  else if b.getD 0 0 % 32 = 31 then (0, [], [], 30)
  else if b.getD 1 0 < 128 then
    if b.getD 1 0 + 2 ≤ b.length then (b.getD 0 0, (b.drop 2).take (b.getD 1 0).toNat, (b.drop 2).drop (b.getD 1 0).toNat, 0) else (0, [], [], 30)
  else if b.getD 1 0 = 129 then
    if 3 ≤ b.length ∧ 128 ≤ b.getD 2 0 ∧ b.getD 2 0 + 3 ≤ b.length then (b.getD 0 0, (b.drop 3).take (b.getD 2 0).toNat, (b.drop 3).drop (b.getD 2 0).toNat, 0) else (0, [], [], 30)
  else if b.getD 1 0 = 130 then
    if 4 ≤ b.length ∧ 0 < b.getD 2 0 ∧ b.getD 2 0 * 256 + b.getD 3 0 + 4 ≤ b.length then (b.getD 0 0, (b.drop 4).take (b.getD 2 0 * 256 + b.getD 3 0).toNat, (b.drop 4).drop (b.getD 2 0 * 256 + b.getD 3 0).toNat, 0) else (0, [], [], 30)
  else (0, [], [], 30)

/-- Every byte is one. -/
theorem SR.byte {S : Nat → Prop} {w : World} {A : Option Addr} {n c : Nat} {b : List Int} (H : SR S w tU8 A n c b) (i : Nat) : 0 ≤ b.getD i 0 ∧ b.getD i 0 ≤ 255 := by
  by_cases h : i < n
  · obtain ⟨ad, x, e, _, _, _, h1, h2⟩ := H.idx8 Try.underlying25 Try.size5 .i64 i i rfl h
    rw [e]; exact ⟨h1, h2⟩
  · rw [List.getD_eq_getElem?_getD, List.getElem?_eq_none (by rw [H.len]; omega)]
    exact ⟨by decide, by decide⟩

def RdPost (w w' : World) (x : Ending) (r : Int × List Int × List Int × Int) : Prop :=
  ∃ v, x = .returned v ∧ Ext w w' ∧ RdRes w.heap.size w' v r.1 r.2.1 r.2.2.1 r.2.2.2

theorem read_any {S : Nat → Prop} {A : Option Addr} {n c : Nat} {b : List Int} (w : World) (H : SR S w tU8 A n c b) :
    Calls Try.prog 13 #[.slice A n c] w fun x w' => RdPost w w' x (derRead b) := by
  have hl := H.len
  have g1 := H.byte 1
  have g2 := H.byte 2
  have g3 := H.byte 3
  unfold derRead RdPost
  rw [hl]
  split
  · exact read_e1 w H (by omega)
  split
  · exact read_e2 w H (by omega)
  split
  · exact read_e3 w H (by omega) (by omega) (by assumption)
  split
  · split
    · exact read_ok1 w H (by omega) (by omega) (by assumption) (by omega) (by omega)
    · exact read_e4 w H (by omega) (by omega) (by assumption) (by omega)
  split
  · split
    · exact read_ok2 w H (by omega) (by omega) (by assumption) (by omega) (by omega)
    · by_cases h3 : 3 ≤ n
      · by_cases h0 : b.getD 2 0 = 0
        · exact read_e8 w H (by omega) (by omega) (by assumption) (by omega) h0
        · by_cases h8 : b.getD 2 0 < 128
          · exact read_e9 w H (by omega) (by omega) (by assumption) (by omega) (by omega)
          · exact read_e10 w H (by omega) (by omega) (by assumption) (by omega) (by omega)
      · exact read_e7 w H (by omega) (by omega) (by assumption) (by omega)
  split
  · split
    · exact read_ok3 w H (by omega) (by omega) (by assumption) (by omega) (by omega) (by omega)
    · by_cases h3 : 4 ≤ n
      · by_cases h0 : b.getD 2 0 = 0
        · exact read_e8 w H (by omega) (by omega) (by assumption) (by omega) h0
        · exact read_e12 w H (by omega) (by omega) (by assumption) (by omega) (by omega) (by omega)
      · exact read_e7 w H (by omega) (by omega) (by assumption) (by omega)
  · by_cases h : b.getD 1 0 = 128
    · exact read_e5 w H (by omega) (by omega) (by assumption) h
    · exact read_e6 w H (by omega) (by omega) (by assumption) (by omega)
end Go.Proofs.Ytikekdifipacmaa
