import Derived.Test.YtikekdifipacmaaProg
import Derived.Test.YtikekdifipacmaaK3
namespace Go.Proofs.Ytikekdifipacmaa
open Go.RowKit
theorem Try.info5 : (Try.prog.info? 5).map (fun i => (i.zero, i.size, i.bytes)) = some (some (.int .u8 0), 1, 1) := by kernel_rfl
set_option maxHeartbeats 400000 in
theorem clone8 {S : Nat → Prop} {A : Option Addr} {n c : Nat} {xs : List Int} (w : World) (H : SR S w tU8 A n c xs) :
    Calls Try.prog 24 #[.slice A n c] w fun e w' => ∃ A' c', e = .returned (.slice A' n c') ∧ Ext w w' ∧ SR (fun k => w.heap.size ≤ k) w' tU8 A' n c' xs ∧ A'.isNone = A.isNone := by
  have hq := fun a l c w => Lib.run_eql_slice_nil (P := Try.prog) w 25 5 a l c 0 0 Try.underlying25
  cases A with
  | none =>
    obtain rfl := H.nil rfl
    obtain rfl : n = 0 := by have := H.cap; omega
    obtain rfl : xs = [] := List.eq_nil_of_length_eq_zero H.len
    go_enter Try.func24, Try.ntmps24
    repeat go_step
    go_ret
    exact ⟨none, 0, rfl, OnS.refl _ _, SR.nils _ _ _, rfl⟩
  | some ad =>
    have hl := H.len
    have hs := H.small
    go_enter Try.func24, Try.ntmps24
    iterate 30 go_step
    generalize hw1 : World.alloc w _ = w1
    have hB : Bx w1 w.heap.size 5 [] := hw1 ▸ Bx.new w [] 5
    have hE : Ext w w1 := hw1 ▸ OnS.alloc w _
    have hz := hB.lt
    clear hw1
    iterate 3 go_step
    refine wl_append rfl (OwnR.empty (fun _ => False) hB (Nat.le_refl _) tU8) (H.mono (OnS.ext hE)) (fun _ h => h.flat) Try.underlying25 Try.info5 rfl (by decide) rfl rfl rfl (by omega) (by simp [tInt]; omega) (by simp; omega) (by simp) ?_
    intro v' w2 HO hg hat hnil
    obtain ⟨A', c', rfl⟩ := HO.slice
    have hE2 : Ext w w2 := OnS.since hE (OnS.grown (S := fun k => k ≠ w.heap.size) hg (by simp [Value.ownBlock])) (fun i hi _ => by omega)
    repeat go_step
    go_ret
    obtain ⟨A2, c2, h2, hr⟩ := HO.read (S' := fun k => w.heap.size ≤ k) (by intro b hb; rcases hat with h | h <;> rw [h] at hb <;> simp [Value.ownBlock] at hb <;> omega) (by simp) (by simp [tInt]; omega) (by simp; omega)
    cases h2
    simp only [List.nil_append] at hr
    refine ⟨A', c', by simp, hE2, hl ▸ hr, ?_⟩
    cases A' with
    | some _ => rfl
    | none =>
      have h1 := hr.nil rfl
      have h2 := hr.cap
      have h3 := hnil.1 (by rw [List.nil_append, h1, show xs.length = 0 by omega])
      simp at h3
end Go.Proofs.Ytikekdifipacmaa
