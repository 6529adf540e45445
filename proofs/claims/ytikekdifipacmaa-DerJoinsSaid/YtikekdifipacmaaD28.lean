/- Pieces written one behind the other are read one by one. Plain. -/
import Derived.Test.YtikekdifipacmaaD23
namespace Go.Proofs.Ytikekdifipacmaa
open Go.RowKit

/-- A piece that may be written. -/
def PieceOk (x : Int × List Int) : Prop := 0 ≤ x.1 ∧ x.1 ≤ 255 ∧ x.1 % 32 ≠ 31 ∧ x.2.length ≤ 4000

theorem derRead_wr (t : Int) (b rest : List Int) (h : PieceOk (t, b)) (hl : (wr t b ++ rest).length ≤ 4096) : derRead (wr t b ++ rest) = (t, b, rest, 0) := by
  obtain ⟨h0, h1, h2, h3⟩ := h
  simp only at h0 h1 h2 h3
  have hz : ¬ 4096 < (wr t b ++ rest).length := by omega
  unfold derRead
  rw [if_neg hz]
  clear hz hl
  unfold wr
  by_cases c1 : b.length < 128
  · simp only [if_pos c1, List.cons_append, List.nil_append, List.length_cons, List.getD_cons_zero, List.getD_cons_succ]
    rw [if_neg (by omega), if_neg h2, if_pos (by omega), if_pos (by simp; omega)]
    simp
  · by_cases c2 : b.length < 256
    · simp only [if_neg c1, if_pos c2, List.cons_append, List.nil_append, List.length_cons, List.getD_cons_zero, List.getD_cons_succ]
      rw [if_neg (by omega), if_neg h2, if_neg (by omega), if_pos trivial, if_pos (by simp; omega)]
      simp
    · simp only [if_neg c1, if_neg c2, List.cons_append, List.nil_append, List.length_cons, List.getD_cons_zero, List.getD_cons_succ]
      have e : (b.length : Int) / 256 * 256 + (b.length : Int) % 256 = b.length := by omega
      rw [if_neg (by omega), if_neg h2, if_neg (by omega), if_neg (by omega), if_pos trivial, e, if_pos (by simp; omega)]
      simp

/-- All of them, one behind the other. -/
def joined (l : List (Int × List Int)) : List Int := l.flatMap fun x => wr x.1 x.2
theorem joined_cons (x : Int × List Int) (l : List (Int × List Int)) : joined (x :: l) = wr x.1 x.2 ++ joined l := by simp [joined]
theorem joined_append (l m : List (Int × List Int)) : joined (l ++ m) = joined l ++ joined m := by simp [joined]
theorem wr_ne (t : Int) (b : List Int) : wr t b ≠ [] := by simp [wr]

theorem derAll_joined : ∀ l : List (Int × List Int), (∀ x ∈ l, PieceOk x) → (joined l).length ≤ 4096 → derAll (joined l) = l.map fun x => (x, (0 : Int))
  | [], _, _ => by simp only [joined, List.flatMap_nil, List.map_nil]; exact derAll_nil
  | x :: l, h, hl => by
    rw [joined_cons] at hl ⊢
    have hr := derRead_wr x.1 x.2 (joined l) (h x (List.mem_cons_self ..)) hl
    rw [derAll_cons _ (by simp [wr_ne]), hr]
    simp only [if_pos, List.map_cons]
    rw [derAll_joined l (fun y hy => h y (List.mem_cons_of_mem _ hy)) (by rw [List.length_append] at hl; omega)]
theorem listOf_joined (l : List (Int × List Int)) (h : ∀ x ∈ l, PieceOk x) (hl : (joined l).length ≤ 4096) : listOf (derAll (joined l)) = (l, 0) := by
  rw [derAll_joined l h hl]
  unfold listOf
  have : (l.map fun x => (x, (0 : Int))).find? (fun x => x.2 != 0) = none := by
    rw [List.find?_eq_none]
    intro x hx
    obtain ⟨y, _, rfl⟩ := List.mem_map.1 hx
    simp
  rw [this]
  simp only [Prod.mk.injEq, and_true, List.map_map]
  exact List.map_id' l
theorem derSeq_joined (l : List (Int × List Int)) (h : ∀ x ∈ l, PieceOk x) (hl : (joined l).length ≤ 4000) : derSeq (wr 48 (joined l)) = (l, 0) := by
  have hw : (wr 48 (joined l)).length ≤ 4096 := by
    unfold wr
    split <;> (try split) <;> simp <;> omega
  have hr := derRead_wr 48 (joined l) [] ⟨by simp, by simp, by simp, hl⟩ (by simpa using hw)
  rw [List.append_nil] at hr
  unfold derSeq
  rw [hr]
  simp only [ne_eq, not_true_eq_false, if_false, or_self]
  exact listOf_joined l h (by omega)
end Go.Proofs.Ytikekdifipacmaa
