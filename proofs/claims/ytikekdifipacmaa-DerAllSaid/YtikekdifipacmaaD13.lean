import Derived.Test.YtikekdifipacmaaD12
import Derived.Deep.LoopGhost
namespace Go.Proofs.Ytikekdifipacmaa
open Go.RowKit

/-- Digits, two by two. -/
def pairs : List Int → List Int
  | [] => []
  | [a] => [a]
  | a :: b :: l => (10 * a + b) :: pairs l

theorem pairs_len : ∀ l : List Int, (pairs l).length = (l.length + 1) / 2
  | [] => rfl
  | [_] => by simp [pairs]
  | a :: b :: l => by simp [pairs, pairs_len l]; omega

theorem pairs_even : ∀ (l : List Int) (d : Int), l.length % 2 = 0 → pairs (l ++ [d]) = pairs l ++ [d]
  | [], d, _ => rfl
  | [_], d, h => by simp at h
  | a :: b :: l, d, h => by
    simp only [List.cons_append, pairs]
    rw [pairs_even l d (by simp at h; omega)]

theorem pairs_odd : ∀ (l : List Int) (d : Int), l.length % 2 = 1 → pairs (l ++ [d]) = (pairs l).set (l.length / 2) (10 * (pairs l).getD (l.length / 2) 0 + d)
  | [], d, h => by simp at h
  | [a], d, _ => by simp [pairs]
  | a :: b :: l, d, h => by
    have e : (a :: b :: l).length / 2 = l.length / 2 + 1 := by simp; omega
    rw [e]
    simp only [List.cons_append, pairs, List.set_cons_succ, List.getD_cons_succ]
    rw [pairs_odd l d (by simp at h; omega)]

theorem pairs_range : ∀ l : List Int, (∀ x ∈ l, 0 ≤ x ∧ x ≤ 9) → ∀ x ∈ pairs l, 0 ≤ x ∧ x ≤ 99
  | [], _ => by simp [pairs]
  | [a], h => by have := h a (by simp); simp [pairs]; omega
  | a :: b :: l, h => by
    have h1 := h a (by simp)
    have h2 := h b (by simp)
    have h3 := pairs_range l (fun x hx => h x (by simp [hx]))
    intro x hx
    rcases List.mem_cons.1 hx with rfl | hx
    · omega
    · exact h3 x hx

/-- A cell of one's own row of numbers may be written. -/
theorem OwnR.put {S : Nat → Prop} {w : World} {base : Nat} {A : Option Addr} {n c : Nat} {xs : List Int} (h : OwnR S w base 31 tU64 (.slice A n c) xs) (i : Nat) (hi : i < xs.length) :
    ∃ g o, (Value.slice A n c).ownBlock = .some g ∧ n = xs.length ∧ (∀ (k : IntKind) (W : World), (Instr.indexAt 54 (.slice A n c) (.int k i)).run Try.prog W = .ok (.pointer (.some ⟨g, o, none⟩)) W) ∧ w.cell? ⟨g, o, none⟩ = .some (.int .u64 (xs.getD i 0)) ∧ w.frozen? ⟨g, o, none⟩ = false ∧
      ∀ y, 0 ≤ y → y ≤ 18446744073709551615 → OwnR S (w.setCell ⟨g, o, none⟩ (.int .u64 y)) base 31 tU64 (.slice A n c) (xs.set i y) := by
  obtain ⟨cs, h1, h2⟩ := h.row
  rcases h1.2 with ⟨h3, h4⟩ | ⟨g, cap, cur, hv, hb, hg, hc, hm, hsz, ht⟩
  · omega
  obtain ⟨rfl, rfl, rfl⟩ : A = .some ⟨g, 0, none⟩ ∧ n = xs.length ∧ c = cap := by simpa using hv
  have hcl : cs.length = xs.length := by simpa [tInt] using h2.1
  have hts : tU64.size = 1 := rfl
  rw [hts, Nat.mul_one] at ht hsz
  have hci : cs[i]? = .some (.int .u64 (xs.getD i 0)) := by
    have := (h2.2 i hi).1
    rw [hts, Nat.mul_one] at this
    have h5 : (List.take 1 (List.drop i cs))[0]? = .some (.int .u64 xs[i]) := by rw [this]; rfl
    rw [List.getElem?_take, if_pos (by decide), List.getElem?_drop, Nat.add_zero] at h5
    rw [h5]; simp [List.getD_eq_getElem?_getD, List.getElem?_eq_getElem hi]
  have hcu : cur[i]? = .some (.int .u64 (xs.getD i 0)) := by
    have h5 : cs[i]? = cur.toList[i]? := by
      rw [← ht, List.getElem?_take, if_pos hi]
    rw [← hci, h5]; simp
  refine ⟨g, i, rfl, rfl, fun k W => ?_, ?_, ?_, fun y hy0 hy1 => ⟨cs.set i (.int .u64 y), ⟨by simpa using h1.1, .inr ⟨g, c, cur.setIfInBounds i (.int .u64 y), by simp, hb, ?_, by simpa using hc, hm, by simpa [hts] using hsz, ?_⟩⟩, ?_, ?_⟩⟩
  · obtain ⟨i0, hi0, hz⟩ := Option.map_eq_some_iff.1 Try.info31
    simp only [Prod.mk.injEq] at hz
    simp [Instr.indexAt, run_underlying Try.underlying54, asIntOf, sizeOf, typeInfo, hi0, hz, hi, Addr.add]
    try omega
  · simp [World.cell?, hg, hcu]
  · simp [World.frozen?, hg]
  · simp [World.setCell, Array.getElem?_modify, hg]
  · rw [hts, Nat.mul_one]
    subst ht
    simp [List.take_set]
  · simpa using h2.1
  · intro j hj
    have hj' : j < xs.length := by simpa using hj
    rw [hts, Nat.mul_one]
    by_cases hji : j = i
    · subst hji
      have : List.take 1 (List.drop j (cs.set j (.int .u64 y))) = [.int .u64 y] := by
        rw [List.take_one, List.head?_drop, List.getElem?_set_self (by omega)]; rfl
      rw [this]
      exact ⟨by simp, by simpa [IntKind.min, IntKind.signed] using hy0, by simpa [IntKind.max, IntKind.signed, IntKind.bits] using hy1⟩
    · have h7 := h2.2 j hj'
      rw [hts, Nat.mul_one] at h7
      have : List.take 1 (List.drop j (cs.set i (.int .u64 y))) = List.take 1 (List.drop j cs) := by
        rw [List.take_one, List.head?_drop, List.take_one, List.head?_drop, List.getElem?_set_ne (by omega)]
      rw [this]
      obtain ⟨h8, h9, h10⟩ := h7
      refine ⟨?_, ?_, ?_⟩ <;> rw [List.getElem_set_ne (by omega)] <;> assumption
end Go.Proofs.Ytikekdifipacmaa
