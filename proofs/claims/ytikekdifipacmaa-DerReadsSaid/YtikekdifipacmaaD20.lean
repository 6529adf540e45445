import Derived.Test.YtikekdifipacmaaD19
namespace Go.Proofs.Ytikekdifipacmaa
open Go.RowKit

/-- Bytes that came in read as a list. -/
theorem SR.ofRow {w : World} {x : Addr} {n c : Nat} {zs : List Int} (hl : n ≤ c) (hz : zs.length = c) (hc : ∀ i, i < zs.length → w.cell? (x.add i) = some (.int .u8 (zs.getD i 0))) (hw : ∀ v ∈ zs, (Lit.int .u8 v).wf = true) (hs : n ≤ 6000) :
    SR (fun _ => True) w tU8 (some x) n c (zs.take n) := by
  have hm : ∀ v ∈ zs, 0 ≤ v ∧ v ≤ 255 := by
    intro v hv
    have := hw v hv
    simpa [Lit.wf, IntKind.min, IntKind.max, IntKind.signed, IntKind.bits] using this
  refine ⟨by simp; omega, hl, by simp [tInt]; omega, by omega, fun h => (by cases h), (zs.take n).map (.int .u8), ?_, fun ad ha h0 => ?_⟩
  · exact Encs.u8s _ _ _ (fun v hv => hm v (List.mem_of_mem_take hv))
  · cases ha
    refine ⟨trivial, ?_, fun j hj => ?_⟩
    · have h1 := hc 0 (by omega)
      have h2 : x.add 0 = x := by simp [Addr.add]
      rw [h2] at h1
      unfold World.cell? at h1
      cases hsp : x.spot with
      | none => rfl
      | some s =>
        rw [hsp] at h1
        split at h1 <;> simp at h1
    · simp at hj
      rw [hc j (by omega)]
      simp [List.getElem?_take, List.getD_eq_getElem?_getD]
      refine ⟨by omega, ?_⟩
      rw [List.getElem?_eq_getElem (by omega)]
      simp

/-- More than 6000 bytes are let by. -/
theorem reads_long (A : Option Addr) (n c : Nat) (w : World) (h6 : 6000 < n) : Calls Try.prog 5 #[.slice A n c] w fun e w' => e = .returned (.bool true) ∧ Ext w w' := by
  go_enter Try.func5, Try.ntmps5
  repeat' go_step
  refine (awake_any w).mono ?_
  rintro x w1 ⟨rfl, hE1⟩
  dsimp only
  repeat' go_step
  go_ret
  exact ⟨rfl, hE1⟩
end Go.Proofs.Ytikekdifipacmaa
