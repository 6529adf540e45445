import Derived.Test.YtikekdifipacmaaD14
import Derived.Test.YtikekdifipacmaaD18
import Derived.Lib.ConvBytes
import Derived.Deep.LoopGhost
namespace Go.Proofs.Ytikekdifipacmaa
open Go.RowKit

/-- A number's two digits. -/
def dg (v : Int) : List Int := [v / 10, v % 10]

/-- A string of bytes 48.. -/
def digs (l : List Int) : ByteArray := strOfNums (l.map (48 + ·))

theorem conv_lit2 (w : World) (a b : Int) (ha : 0 ≤ a ∧ a ≤ 255) (hb : 0 ≤ b ∧ b ≤ 255) :
    (convert 25 9 (.slice (some ⟨w.heap.size, 0, none⟩) 2 2)).run Try.prog (w.alloc (.cells #[.int .u8 a, .int .u8 b] 5)) = .ok (.string (strOfNums [a, b])) (w.alloc (.cells #[.int .u8 a, .int .u8 b] 5)) := by
  have hB := Bx.new w [.int .u8 a, .int .u8 b] 5
  have hS : SR (fun _ => True) (w.alloc (.cells #[.int .u8 a, .int .u8 b] 5)) tU8 (some ⟨w.heap.size, 0, none⟩) 2 2 [a, b] :=
    SR.ofBx (S := fun _ => True) hB (Encs.u8s _ _ [a, b] (by simp; omega)) trivial 2 rfl (by decide) (by decide)
  exact hS.str (P := Try.prog) Try.underlying25 Try.underlying5 Try.underlying9

set_option maxHeartbeats 1000000 in
theorem two_any (v : Int) (h0 : 0 ≤ v) (h1 : v ≤ 99) (w : World) :
    Calls Try.prog 8 #[.int .i64 v] w fun e w' => e = .returned (.string (digs (dg v))) ∧ Ext w w' := by
  obtain ⟨a, ha⟩ : ∃ a, v / 10 = a := ⟨_, rfl⟩
  obtain ⟨b, hb⟩ : ∃ b, v % 10 = b := ⟨_, rfl⟩
  have r1 : Int.tdiv v 10 = a := by rw [Int.tdiv_eq_ediv_of_nonneg h0, ha]
  have r2 : Int.tmod v 10 = b := by rw [Int.tmod_eq_emod_of_nonneg h0, hb]
  have ka : 0 ≤ a ∧ a ≤ 9 := by omega
  have kb : 0 ≤ b ∧ b ≤ 9 := by omega
  have r3 : Int.tmod a 10 = a := by rw [Int.tmod_eq_emod_of_nonneg (by omega)]; omega
  have hE : digs (dg v) = strOfNums [48 + a, 48 + b] := by simp [digs, dg, ha, hb]
  rw [hE]
  have hcv := conv_lit2 w (48 + a) (48 + b) (by omega) (by omega)
  clear hE ha hb
  go_enter Try.func8, Try.ntmps8
  repeat' go_step
  go_ret
  exact ⟨rfl, OnS.alloc _ _⟩
end Go.Proofs.Ytikekdifipacmaa
