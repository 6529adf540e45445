import Derived.Test.YtikekdifipacmaaD13
import Derived.BigQuiet
import Derived.Deep.QuietTactic
namespace Go.Proofs.Ytikekdifipacmaa
open Go.RowKit

theorem no_undef {b : Bool} (h : some undef = some (Value.bool b)) : False := by cases h

/-- A leap year. -/
def isLeap (y : Int) : Prop := y % 4 = 0 ∧ (y % 100 ≠ 0 ∨ y % 400 = 0)
instance (y : Int) : Decidable (isLeap y) := by unfold isLeap; infer_instance
/-- The months' lengths, February's given. -/
def mlen (f : Int) : Nat → Int
  | 0 => 31 | 1 => f | 2 => 31 | 3 => 30 | 4 => 31 | 5 => 30 | 6 => 31 | 7 => 31 | 8 => 30 | 9 => 31 | 10 => 30 | _ => 31
/-- The days ahead of a month. -/
def msum (f : Int) : Nat → Int
  | 0 => 0
  | n + 1 => msum f n + mlen f n
theorem msum_range (f : Int) (hf : 28 ≤ f ∧ f ≤ 29) : ∀ n : Nat, 0 ≤ msum f n ∧ msum f n ≤ 31 * n
  | 0 => by simp [msum]
  | n + 1 => by
    have h1 := msum_range f hf n
    have h2 : 28 ≤ mlen f n ∧ mlen f n ≤ 31 := by unfold mlen; split <;> omega
    simp only [msum]; omega

theorem mlen_list (f : Int) : ∀ k, k < 12 → ([.int .u64 31, .int .u64 f, .int .u64 31, .int .u64 30, .int .u64 31, .int .u64 30, .int .u64 31, .int .u64 31, .int .u64 30, .int .u64 31, .int .u64 30, .int .u64 31] : List Value)[k]? = some (.int .u64 (mlen f k))
  | 0, _ => rfl
  | 1, _ => rfl
  | 2, _ => rfl
  | 3, _ => rfl
  | 4, _ => rfl
  | 5, _ => rfl
  | 6, _ => rfl
  | 7, _ => rfl
  | 8, _ => rfl
  | 9, _ => rfl
  | 10, _ => rfl
  | 11, _ => rfl
  | k + 12, h => by omega
theorem mlen_range (f : Int) (hf : 28 ≤ f ∧ f ≤ 29) (n : Nat) : 0 ≤ mlen f n ∧ mlen f n ≤ 31 := by unfold mlen; split <;> omega
set_option maxRecDepth 100000 in
theorem mlen_idx (f : Int) : ∀ k : Nat, k < 12 → ∀ W : World, (Instr.index 68 (.agg #[.int .u64 31, .int .u64 f, .int .u64 31, .int .u64 30, .int .u64 31, .int .u64 30, .int .u64 31, .int .u64 31, .int .u64 30, .int .u64 31, .int .u64 30, .int .u64 31]) (.int .i64 k)).run Try.prog W = .ok (.int .u64 (mlen f k)) W
  | 0, _ => fun W => by go_simp; rfl
  | 1, _ => fun W => by go_simp; rfl
  | 2, _ => fun W => by go_simp; rfl
  | 3, _ => fun W => by go_simp; rfl
  | 4, _ => fun W => by go_simp; rfl
  | 5, _ => fun W => by go_simp; rfl
  | 6, _ => fun W => by go_simp; rfl
  | 7, _ => fun W => by go_simp; rfl
  | 8, _ => fun W => by go_simp; rfl
  | 9, _ => fun W => by go_simp; rfl
  | 10, _ => fun W => by go_simp; rfl
  | 11, _ => fun W => by go_simp; rfl
  | k + 12, h => by omega

set_option maxRecDepth 100000 in
set_option maxHeartbeats 40000000 in
theorem days_a (y : Int) (m : Nat) (hm : m < 12) (hy0 : 0 ≤ y) (hy1 : y ≤ 10000) (h1 : y % 4 = 0) (h2 : y % 100 = 0) (h3 : y % 400 = 0) (w : World) :
    Calls Try.prog 22 #[.int .u64 y, .int .u64 (m + 1 : Nat)] w fun e w' => e = .returned (.tuple #[.int .u64 (msum 29 m), .int .u64 (mlen 29 m)]) ∧ Ext w w' := by
  have r4 : Int.tmod y 4 = y % 4 := Int.tmod_eq_emod_of_nonneg hy0
  have r100 : Int.tmod y 100 = y % 100 := Int.tmod_eq_emod_of_nonneg hy0
  have r400 : Int.tmod y 400 = y % 400 := Int.tmod_eq_emod_of_nonneg hy0
  go_enter Try.func22, Try.ntmps22
  repeat' go_step
  try any_goals exact (no_undef (by assumption)).elim
  generalize hw1 : World.alloc w _ = w1
  have hE : Ext w w1 := hw1 ▸ OnS.alloc w _
  have hB : Bx w1 w.heap.size 68 [.int .u64 31, .int .u64 29, .int .u64 31, .int .u64 30, .int .u64 31, .int .u64 30, .int .u64 31, .int .u64 31, .int .u64 30, .int .u64 31, .int .u64 30, .int .u64 31] := hw1 ▸ Bx.new w [.int .u64 31, .int .u64 29, .int .u64 31, .int .u64 30, .int .u64 31, .int .u64 30, .int .u64 31, .int .u64 31, .int .u64 30, .int .u64 31, .int .u64 30, .int .u64 31] 68
  have hcm : w1.cell? ⟨w.heap.size, m, none⟩ = some (.int .u64 (mlen 29 m)) := by
    rw [hB.cell m]
    exact mlen_list 29 m hm
  clear hw1 hB
  have hmI : (m : Int) < 12 := by omega
  have hms := msum_range 29 (by decide) m
  have HMS := Lib.hid hms
  clear hms
  go_loop [4, 25] (fun v4 v25 => ∃ i : Nat, i ≤ 12 ∧ v25 = .int .i64 i ∧ v4 = .int .u64 (msum 29 (min i m))) (fun _ i => 12 - (intOf i).toNat)
  case atStart => exact ⟨0, by omega, rfl, by simp [msum]⟩
  case round =>
    obtain ⟨i, hi, rfl, rfl⟩ := hrel
    by_cases h12 : i < 12
    · have hget := mlen_idx 29 i h12
      have hmi := mlen_range 29 (by decide) i
      have hsr := msum_range 29 (by decide) (min i m)
      have hsm : msum 29 (min i m) ≤ 372 := by omega
      obtain ⟨hsr0, -⟩ := hsr
      obtain ⟨s, hs⟩ : ∃ s, msum 29 (min i m) = s := ⟨_, rfl⟩
      obtain ⟨d, hd⟩ : ∃ d, mlen 29 i = d := ⟨_, rfl⟩
      rw [hs] at hsr0 hsm ⊢
      rw [hd] at hget hmi
      have HS := Lib.hid hs
      have HD := Lib.hid hd
      clear hs hd
      repeat' go_step
      all_goals refine ⟨⟨i + 1, by omega, by simp, ?_⟩, by simp [intOf]; omega⟩
      · rw [show min (i + 1) m = i + 1 by omega]; simp only [msum]; rw [← HS.out, ← HD.out, show min i m = i by omega]
      · rw [show min (i + 1) m = min i m by omega, HS.out]
    · have he : i = 12 := by omega
      subst he
      have hmn : min 12 m = m := by omega
      rw [hmn]
      have hfz := World.frozen?
      clear hfz hmn
      have hm1 : (m : Int) + 1 - 1 = m := by omega
      repeat' go_step
      go_quiet (fail)
      repeat' go_step
      go_ret2
      exact ⟨rfl, hE.trans (OnS.drewN _ _)⟩

set_option maxRecDepth 100000 in
set_option maxHeartbeats 40000000 in
theorem days_b (y : Int) (m : Nat) (hm : m < 12) (hy0 : 0 ≤ y) (hy1 : y ≤ 10000) (h1 : y % 4 = 0) (h2 : y % 100 = 0) (h3 : ¬ y % 400 = 0) (w : World) :
    Calls Try.prog 22 #[.int .u64 y, .int .u64 (m + 1 : Nat)] w fun e w' => e = .returned (.tuple #[.int .u64 (msum 28 m), .int .u64 (mlen 28 m)]) ∧ Ext w w' := by
  have r4 : Int.tmod y 4 = y % 4 := Int.tmod_eq_emod_of_nonneg hy0
  have r100 : Int.tmod y 100 = y % 100 := Int.tmod_eq_emod_of_nonneg hy0
  have r400 : Int.tmod y 400 = y % 400 := Int.tmod_eq_emod_of_nonneg hy0
  go_enter Try.func22, Try.ntmps22
  repeat' go_step
  try any_goals exact (no_undef (by assumption)).elim
  generalize hw1 : World.alloc w _ = w1
  have hE : Ext w w1 := hw1 ▸ OnS.alloc w _
  have hB : Bx w1 w.heap.size 68 [.int .u64 31, .int .u64 28, .int .u64 31, .int .u64 30, .int .u64 31, .int .u64 30, .int .u64 31, .int .u64 31, .int .u64 30, .int .u64 31, .int .u64 30, .int .u64 31] := hw1 ▸ Bx.new w [.int .u64 31, .int .u64 28, .int .u64 31, .int .u64 30, .int .u64 31, .int .u64 30, .int .u64 31, .int .u64 31, .int .u64 30, .int .u64 31, .int .u64 30, .int .u64 31] 68
  have hcm : w1.cell? ⟨w.heap.size, m, none⟩ = some (.int .u64 (mlen 28 m)) := by
    rw [hB.cell m]
    exact mlen_list 28 m hm
  clear hw1 hB
  have hmI : (m : Int) < 12 := by omega
  have hms := msum_range 28 (by decide) m
  have HMS := Lib.hid hms
  clear hms
  go_loop [4, 25] (fun v4 v25 => ∃ i : Nat, i ≤ 12 ∧ v25 = .int .i64 i ∧ v4 = .int .u64 (msum 28 (min i m))) (fun _ i => 12 - (intOf i).toNat)
  case atStart => exact ⟨0, by omega, rfl, by simp [msum]⟩
  case round =>
    obtain ⟨i, hi, rfl, rfl⟩ := hrel
    by_cases h12 : i < 12
    · have hget := mlen_idx 28 i h12
      have hmi := mlen_range 28 (by decide) i
      have hsr := msum_range 28 (by decide) (min i m)
      have hsm : msum 28 (min i m) ≤ 372 := by omega
      obtain ⟨hsr0, -⟩ := hsr
      obtain ⟨s, hs⟩ : ∃ s, msum 28 (min i m) = s := ⟨_, rfl⟩
      obtain ⟨d, hd⟩ : ∃ d, mlen 28 i = d := ⟨_, rfl⟩
      rw [hs] at hsr0 hsm ⊢
      rw [hd] at hget hmi
      have HS := Lib.hid hs
      have HD := Lib.hid hd
      clear hs hd
      repeat' go_step
      all_goals refine ⟨⟨i + 1, by omega, by simp, ?_⟩, by simp [intOf]; omega⟩
      · rw [show min (i + 1) m = i + 1 by omega]; simp only [msum]; rw [← HS.out, ← HD.out, show min i m = i by omega]
      · rw [show min (i + 1) m = min i m by omega, HS.out]
    · have he : i = 12 := by omega
      subst he
      have hmn : min 12 m = m := by omega
      rw [hmn]
      have hfz := World.frozen?
      clear hfz hmn
      have hm1 : (m : Int) + 1 - 1 = m := by omega
      repeat' go_step
      go_quiet (fail)
      repeat' go_step
      go_ret2
      exact ⟨rfl, hE.trans (OnS.drewN _ _)⟩

set_option maxRecDepth 100000 in
set_option maxHeartbeats 40000000 in
theorem days_c (y : Int) (m : Nat) (hm : m < 12) (hy0 : 0 ≤ y) (hy1 : y ≤ 10000) (h1 : y % 4 = 0) (h2 : ¬ y % 100 = 0) (w : World) :
    Calls Try.prog 22 #[.int .u64 y, .int .u64 (m + 1 : Nat)] w fun e w' => e = .returned (.tuple #[.int .u64 (msum 29 m), .int .u64 (mlen 29 m)]) ∧ Ext w w' := by
  have r4 : Int.tmod y 4 = y % 4 := Int.tmod_eq_emod_of_nonneg hy0
  have r100 : Int.tmod y 100 = y % 100 := Int.tmod_eq_emod_of_nonneg hy0
  have r400 : Int.tmod y 400 = y % 400 := Int.tmod_eq_emod_of_nonneg hy0
  go_enter Try.func22, Try.ntmps22
  repeat' go_step
  try any_goals exact (no_undef (by assumption)).elim
  generalize hw1 : World.alloc w _ = w1
  have hE : Ext w w1 := hw1 ▸ OnS.alloc w _
  have hB : Bx w1 w.heap.size 68 [.int .u64 31, .int .u64 29, .int .u64 31, .int .u64 30, .int .u64 31, .int .u64 30, .int .u64 31, .int .u64 31, .int .u64 30, .int .u64 31, .int .u64 30, .int .u64 31] := hw1 ▸ Bx.new w [.int .u64 31, .int .u64 29, .int .u64 31, .int .u64 30, .int .u64 31, .int .u64 30, .int .u64 31, .int .u64 31, .int .u64 30, .int .u64 31, .int .u64 30, .int .u64 31] 68
  have hcm : w1.cell? ⟨w.heap.size, m, none⟩ = some (.int .u64 (mlen 29 m)) := by
    rw [hB.cell m]
    exact mlen_list 29 m hm
  clear hw1 hB
  have hmI : (m : Int) < 12 := by omega
  have hms := msum_range 29 (by decide) m
  have HMS := Lib.hid hms
  clear hms
  go_loop [4, 25] (fun v4 v25 => ∃ i : Nat, i ≤ 12 ∧ v25 = .int .i64 i ∧ v4 = .int .u64 (msum 29 (min i m))) (fun _ i => 12 - (intOf i).toNat)
  case atStart => exact ⟨0, by omega, rfl, by simp [msum]⟩
  case round =>
    obtain ⟨i, hi, rfl, rfl⟩ := hrel
    by_cases h12 : i < 12
    · have hget := mlen_idx 29 i h12
      have hmi := mlen_range 29 (by decide) i
      have hsr := msum_range 29 (by decide) (min i m)
      have hsm : msum 29 (min i m) ≤ 372 := by omega
      obtain ⟨hsr0, -⟩ := hsr
      obtain ⟨s, hs⟩ : ∃ s, msum 29 (min i m) = s := ⟨_, rfl⟩
      obtain ⟨d, hd⟩ : ∃ d, mlen 29 i = d := ⟨_, rfl⟩
      rw [hs] at hsr0 hsm ⊢
      rw [hd] at hget hmi
      have HS := Lib.hid hs
      have HD := Lib.hid hd
      clear hs hd
      repeat' go_step
      all_goals refine ⟨⟨i + 1, by omega, by simp, ?_⟩, by simp [intOf]; omega⟩
      · rw [show min (i + 1) m = i + 1 by omega]; simp only [msum]; rw [← HS.out, ← HD.out, show min i m = i by omega]
      · rw [show min (i + 1) m = min i m by omega, HS.out]
    · have he : i = 12 := by omega
      subst he
      have hmn : min 12 m = m := by omega
      rw [hmn]
      have hfz := World.frozen?
      clear hfz hmn
      have hm1 : (m : Int) + 1 - 1 = m := by omega
      repeat' go_step
      go_quiet (fail)
      repeat' go_step
      go_ret2
      exact ⟨rfl, hE.trans (OnS.drewN _ _)⟩

set_option maxRecDepth 100000 in
set_option maxHeartbeats 40000000 in
theorem days_d (y : Int) (m : Nat) (hm : m < 12) (hy0 : 0 ≤ y) (hy1 : y ≤ 10000) (h1 : ¬ y % 4 = 0) (w : World) :
    Calls Try.prog 22 #[.int .u64 y, .int .u64 (m + 1 : Nat)] w fun e w' => e = .returned (.tuple #[.int .u64 (msum 28 m), .int .u64 (mlen 28 m)]) ∧ Ext w w' := by
  have r4 : Int.tmod y 4 = y % 4 := Int.tmod_eq_emod_of_nonneg hy0
  have r100 : Int.tmod y 100 = y % 100 := Int.tmod_eq_emod_of_nonneg hy0
  have r400 : Int.tmod y 400 = y % 400 := Int.tmod_eq_emod_of_nonneg hy0
  go_enter Try.func22, Try.ntmps22
  repeat' go_step
  try any_goals exact (no_undef (by assumption)).elim
  generalize hw1 : World.alloc w _ = w1
  have hE : Ext w w1 := hw1 ▸ OnS.alloc w _
  have hB : Bx w1 w.heap.size 68 [.int .u64 31, .int .u64 28, .int .u64 31, .int .u64 30, .int .u64 31, .int .u64 30, .int .u64 31, .int .u64 31, .int .u64 30, .int .u64 31, .int .u64 30, .int .u64 31] := hw1 ▸ Bx.new w [.int .u64 31, .int .u64 28, .int .u64 31, .int .u64 30, .int .u64 31, .int .u64 30, .int .u64 31, .int .u64 31, .int .u64 30, .int .u64 31, .int .u64 30, .int .u64 31] 68
  have hcm : w1.cell? ⟨w.heap.size, m, none⟩ = some (.int .u64 (mlen 28 m)) := by
    rw [hB.cell m]
    exact mlen_list 28 m hm
  clear hw1 hB
  have hmI : (m : Int) < 12 := by omega
  have hms := msum_range 28 (by decide) m
  have HMS := Lib.hid hms
  clear hms
  go_loop [4, 25] (fun v4 v25 => ∃ i : Nat, i ≤ 12 ∧ v25 = .int .i64 i ∧ v4 = .int .u64 (msum 28 (min i m))) (fun _ i => 12 - (intOf i).toNat)
  case atStart => exact ⟨0, by omega, rfl, by simp [msum]⟩
  case round =>
    obtain ⟨i, hi, rfl, rfl⟩ := hrel
    by_cases h12 : i < 12
    · have hget := mlen_idx 28 i h12
      have hmi := mlen_range 28 (by decide) i
      have hsr := msum_range 28 (by decide) (min i m)
      have hsm : msum 28 (min i m) ≤ 372 := by omega
      obtain ⟨hsr0, -⟩ := hsr
      obtain ⟨s, hs⟩ : ∃ s, msum 28 (min i m) = s := ⟨_, rfl⟩
      obtain ⟨d, hd⟩ : ∃ d, mlen 28 i = d := ⟨_, rfl⟩
      rw [hs] at hsr0 hsm ⊢
      rw [hd] at hget hmi
      have HS := Lib.hid hs
      have HD := Lib.hid hd
      clear hs hd
      repeat' go_step
      all_goals refine ⟨⟨i + 1, by omega, by simp, ?_⟩, by simp [intOf]; omega⟩
      · rw [show min (i + 1) m = i + 1 by omega]; simp only [msum]; rw [← HS.out, ← HD.out, show min i m = i by omega]
      · rw [show min (i + 1) m = min i m by omega, HS.out]
    · have he : i = 12 := by omega
      subst he
      have hmn : min 12 m = m := by omega
      rw [hmn]
      have hfz := World.frozen?
      clear hfz hmn
      have hm1 : (m : Int) + 1 - 1 = m := by omega
      repeat' go_step
      go_quiet (fail)
      repeat' go_step
      go_ret2
      exact ⟨rfl, hE.trans (OnS.drewN _ _)⟩

/-- February's length. -/
def feb (y : Int) : Int := if isLeap y then 29 else 28
theorem days_any (y : Int) (m : Nat) (hm : m < 12) (hy0 : 0 ≤ y) (hy1 : y ≤ 10000) (w : World) :
    Calls Try.prog 22 #[.int .u64 y, .int .u64 (m + 1 : Nat)] w fun e w' => e = .returned (.tuple #[.int .u64 (msum (feb y) m), .int .u64 (mlen (feb y) m)]) ∧ Ext w w' := by
  unfold feb
  by_cases h1 : y % 4 = 0
  · by_cases h2 : y % 100 = 0
    · by_cases h3 : y % 400 = 0
      · rw [if_pos (show isLeap y from ⟨h1, .inr h3⟩)]; exact days_a y m hm hy0 hy1 h1 h2 h3 w
      · rw [if_neg (show ¬ isLeap y by unfold isLeap; omega)]; exact days_b y m hm hy0 hy1 h1 h2 h3 w
    · rw [if_pos (show isLeap y from ⟨h1, .inl h2⟩)]; exact days_c y m hm hy0 hy1 h1 h2 w
  · rw [if_neg (show ¬ isLeap y by unfold isLeap; omega)]; exact days_d y m hm hy0 hy1 h1 w

end Go.Proofs.Ytikekdifipacmaa
