import Derived.Test.YtikekdifipacmaaD15
import Derived.BigQuiet
import Derived.Deep.QuietTactic
namespace Go.Proofs.Ytikekdifipacmaa
open Go.RowKit


set_option maxRecDepth 100000 in
set_option maxHeartbeats 80000000 in
theorem time23_a {S : Nat → Prop} {A : Option Addr} {c : Nat} {ds : List Int} (w : World) (H : SR S w tU8 A 13 c (ds.map (48 + ·) ++ [90])) (hd : ∀ x ∈ ds, 0 ≤ x ∧ x ≤ 9) (p0 p1 p2 p3 p4 p5 : Int) (hp : pairs ds = [p0, p1, p2, p3, p4, p5]) (m : Nat) (hm : m < 12) (h1 : p1 = m + 1) (h0 : 0 ≤ p0) (h0b : p0 < 50) (h2a : 1 ≤ p2) (h2b : p2 ≤ mlen (feb (p0 + 1900 + 100)) m) (h3a : 0 ≤ p3) (h3b : p3 ≤ 23) (h4a : 0 ≤ p4) (h4b : p4 ≤ 59) (h5a : 0 ≤ p5) (h5b : p5 ≤ 59) :
    Calls Try.prog 10 #[.agg #[.int .u8 23, .slice A 13 c]] w fun e w' => e = .returned (.tuple #[.int .u64 ((((365 * (p0 + 1900 + 100 - 1970) + ((p0 + 1900 + 100 - 1) / 4 - (p0 + 1900 + 100 - 1) / 100 + (p0 + 1900 + 100 - 1) / 400) - 477 + msum (feb (p0 + 1900 + 100)) m + p2 - 1) * 24 + p3) * 60 + p4) * 60 + p5), .int .i64 0]) ∧ Ext w w' := by
  subst h1
  have hl := H.len
  have hdl : ds.length = 12 := by simpa using hl
  obtain ⟨hcut, HC⟩ := H.cutH Try.underlying25 (by rw [Try.size5]; rfl) .i64 12 12 rfl (by omega)
  obtain ⟨adz, xz, ez, hiz, hcz, hsz, _, _⟩ := H.idx8 Try.underlying25 Try.size5 .i64 12 12 rfl (by omega)
  have hz : xz = 90 := by
    rw [← ez, List.getD_eq_getElem?_getD, List.getElem?_append_right (by simp; omega)]
    simp [hdl]
  subst hz
  clear ez
  have HC' : SR S w tU8 A 12 c (ds.map (48 + ·)) := by
    have : (List.take 12 (ds.map (48 + ·) ++ [90])) = ds.map (48 + ·) := by rw [List.take_append_of_le_length (by simp; omega)]; exact List.take_of_length_le (by simp; omega)
    rwa [this] at HC
  clear HC hl
  go_enter Try.func10, Try.ntmps10
  iterate 5 go_step
  generalize hw1 : World.alloc w _ = w1
  have hE : Ext w w1 := hw1 ▸ OnS.alloc w _
  have hB : Bx w1 w.heap.size 28 [.int .u8 23, .slice A 13 c] := hw1 ▸ Bx.new w [.int .u8 23, .slice A 13 c] 28
  clear hw1
  have b0 := hB.cell 0
  have b1 := hB.cell 1
  simp only [List.getElem?_cons_zero, List.getElem?_cons_succ] at b0 b1
  have hcz1 := hE.cell hcz trivial
  repeat' go_step
  go_loopg [5, 43] 12 (fun k v i wr => ∃ j : Nat, j + k = 12 ∧ i = .int .i64 j ∧ Ext w wr ∧ Bx wr w.heap.size 28 [.int .u8 23, .slice A 13 c] ∧ OwnR (fun _ => False) wr (w.heap.size + 1) 31 tU64 v (pairs (ds.take j)))
  case atStart => exact ⟨0, by omega, rfl, hE, hB, by simpa [pairs] using OwnR.nil _ _ _ _ _⟩
  case round =>
    obtain ⟨j, hj, rfl, hE2, hB2, hO⟩ := hrel
    have hz1 := hB2.lt
    clear b0 b1 hcz1
    by_cases h12 : j < 12
    · obtain ⟨ad, x, ex, hix, hcx, hsx, hx0, hx1⟩ := (HC'.mono (OnS.ext hE2)).idx8 Try.underlying25 Try.size5 .i64 j j rfl h12
      obtain ⟨d, hdj⟩ : ∃ d, ds[j]? = some d := ⟨_, List.getElem?_eq_getElem (by omega)⟩
      have hxd : x = 48 + d := by
        rw [← ex, List.getD_eq_getElem?_getD, List.getElem?_map, hdj]; rfl
      subst hxd
      have hd9 := hd d (List.mem_of_getElem? hdj)
      have htk : ds.take (j + 1) = ds.take j ++ [d] := by rw [List.take_add_one, hdj]; rfl
      have hlk : (ds.take j).length = j := by simp; omega
      have HT := Lib.hid htk
      have HL := Lib.hid hlk
      clear ex hdj htk hlk
      obtain ⟨m, hm1, hm2⟩ : ∃ m, 2 * m ≤ j ∧ j ≤ 2 * m + 1 := ⟨j / 2, by omega, by omega⟩
      have hq : Int.tdiv (j : Int) 2 = (m : Int) := by rw [Int.tdiv_eq_ediv_of_nonneg (by omega)]; omega
      have hm6 : (m : Int) ≤ 6 := by omega
      have HM := Lib.hid (And.intro hm1 hm2)
      clear hm1 hm2
      by_cases hp : j % 2 = 0
      · have hr : Int.tmod (j : Int) 2 = 0 := by rw [Int.tmod_eq_emod_of_nonneg (by omega)]; omega
        repeat' (first | (refine wl_append (T := tU64) (base := w.heap.size + 1) rfl (hO.ext (OnS.alloc _ _)) (lit64 wr 0 (by decide)) (fun _ h => h.flat) Try.underlying54 Try.info31 rfl (by decide) rfl rfl rfl ?_ ?_ ?_ (fun _ h => h.elim) ?_) | go_step)
        · simp; omega
        · simp [pairs_len, tInt]; omega
        · simp [pairs_len]; omega
        intro v w2 hHO hg hat _
        have hOl := hO.lt
        have hO2 : OnS (· < w.heap.size + 1) wr w2 := OnS.since (OnS.ext (OnS.alloc wr (.cells #[.int .u64 0] 31))) (OnS.grown (S := (· < w.heap.size + 1)) hg (fun k hk e => by have := hOl k e.symm; omega)) (fun i _ h => h)
        obtain ⟨A2, c2, rfl⟩ := hHO.slice
        have hLl : (pairs (ds.take j)).length = m := by have := HM.out; rw [pairs_len, HL.out]; omega
        have hLs : (pairs (ds.take j) ++ [0]).set m (10 * 0 + d) = pairs (ds.take (j + 1)) := by
          rw [HT.out, pairs_even _ _ (by rw [HL.out]; exact hp), ← hLl, List.set_append_right _ _ (Nat.le_refl _)]
          simp
        have hLz : (pairs (ds.take j) ++ [0]).getD m 0 = 0 := by
          rw [← hLl, List.getD_eq_getElem?_getD, List.getElem?_append_right (Nat.le_refl _)]
          simp
        have hLn : (pairs (ds.take j) ++ [0]).length = m + 1 := by simp [hLl]
        rw [hLn] at hHO ⊢
        have hQ := hHO
        clear hg hat hO hOl
        obtain ⟨g, o, hgo, hmn, hix2, hcl, hfr, hput⟩ := hQ.put m (by omega)
        rw [hLz] at hcl
        have hgl := hQ.lt g hgo
        have hB3 : Bx w2 w.heap.size 28 [.int .u8 23, .slice A 13 c] := hB2.to (S := (· < w.heap.size + 1)) (hO2) (by omega)
        have hE3 : Ext w w2 := OnS.since (S' := (· < w.heap.size + 1)) hE2 (hO2) (fun i hi _ => by omega)
        have HS := Lib.hid hLs
        have HP := Lib.hid hput
        clear hLs hput hLz hHO hmn hLn
        try clear hLl
        repeat' go_step
        go_roundg (11 - j)
        case rel =>
          refine ⟨j + 1, by omega, by simp, OnS.since hE3 (OnS.setCell _ _ _) (fun i hi _ => by simp only; omega), hB3.to (OnS.setCell _ _ _) (by simp only; omega), ?_⟩
          rw [← HS.out, show 10 * 0 + d = 48 + d - 48 by omega]
          exact HP.out _ (by omega) (by omega)
        case measure => omega
      · have hr : Int.tmod (j : Int) 2 = 1 := by rw [Int.tmod_eq_emod_of_nonneg (by omega)]; omega
        obtain ⟨A2, c2, rfl⟩ := hO.slice
        have hLn : (pairs (ds.take j)).length = m + 1 := by have := HM.out; rw [pairs_len, HL.out]; omega
        obtain ⟨z, hLz⟩ : ∃ z, (pairs (ds.take j)).getD m 0 = z := ⟨_, rfl⟩
        have hz9 : 0 ≤ z ∧ z ≤ 99 := by
          refine pairs_range (ds.take j) (fun x hx => hd x (List.mem_of_mem_take hx)) z ?_
          rw [← hLz, List.getD_eq_getElem?_getD, List.getElem?_eq_getElem (by omega)]
          exact List.getElem_mem _
        have hLs : (pairs (ds.take j)).set m (10 * z + d) = pairs (ds.take (j + 1)) := by
          rw [HT.out, pairs_odd _ _ (by rw [HL.out]; omega), HL.out, show j / 2 = m by (have := HM.out; omega), hLz]
        rw [hLn] at hO ⊢
        have hHO := hO
        have hQ := hHO
        clear hO
        obtain ⟨g, o, hgo, hmn, hix2, hcl, hfr, hput⟩ := hQ.put m (by omega)
        rw [hLz] at hcl
        have hgl := hQ.lt g hgo
        have hB3 : Bx wr w.heap.size 28 [.int .u8 23, .slice A 13 c] := hB2.to (S := (· < w.heap.size + 1)) (OnS.ext (OnS.refl _ wr)) (by omega)
        have hE3 : Ext w wr := OnS.since (S' := (· < w.heap.size + 1)) hE2 (OnS.ext (OnS.refl _ wr)) (fun i hi _ => by omega)
        have HS := Lib.hid hLs
        have HP := Lib.hid hput
        clear hLs hput hLz hHO hmn hLn
        try clear hLl
        repeat' go_step
        go_roundg (11 - j)
        case rel =>
          refine ⟨j + 1, by omega, by simp, OnS.since hE3 (OnS.setCell _ _ _) (fun i hi _ => by simp only; omega), hB3.to (OnS.setCell _ _ _) (by simp only; omega), ?_⟩
          rw [← HS.out, show 10 * z + d = 10 * z + (48 + d - 48) by omega]
          exact HP.out _ (by omega) (by omega)
        case measure => omega
    · have hjn : j = 12 := by omega
      subst hjn
      rw [List.take_of_length_le (by omega), hp] at hO
      obtain ⟨A5, c5, rfl, hR⟩ := hO.read (S' := fun _ => True) (fun _ _ => trivial) (fun _ _ _ => trivial) (by simp [tInt]) (by simp)
      simp only [List.length_cons, List.length_nil, Nat.zero_add, Nat.reduceAdd] at hR ⊢
      obtain ⟨a0, g0, f0, -, -, -⟩ := hR.idxI Try.underlying54 (by rw [show (Try.prog.info? 31).map (·.size) = some 1 by kernel_rfl]) .i64 0 0 rfl (by omega)
      obtain ⟨a1, g1, f1, -, -, -⟩ := hR.idxI Try.underlying54 (by rw [show (Try.prog.info? 31).map (·.size) = some 1 by kernel_rfl]) .i64 1 1 rfl (by omega)
      obtain ⟨a2, g2, f2, -, -, -⟩ := hR.idxI Try.underlying54 (by rw [show (Try.prog.info? 31).map (·.size) = some 1 by kernel_rfl]) .i64 2 2 rfl (by omega)
      obtain ⟨a3, g3, f3, -, -, -⟩ := hR.idxI Try.underlying54 (by rw [show (Try.prog.info? 31).map (·.size) = some 1 by kernel_rfl]) .i64 3 3 rfl (by omega)
      obtain ⟨a4, g4, f4, -, -, -⟩ := hR.idxI Try.underlying54 (by rw [show (Try.prog.info? 31).map (·.size) = some 1 by kernel_rfl]) .i64 4 4 rfl (by omega)
      obtain ⟨a5, g5, f5, -, -, -⟩ := hR.idxI Try.underlying54 (by rw [show (Try.prog.info? 31).map (·.size) = some 1 by kernel_rfl]) .i64 5 5 rfl (by omega)
      simp only [List.getD_eq_getElem?_getD, List.getElem?_cons_zero, List.getElem?_cons_succ, Option.getD_some] at f0 f1 f2 f3 f4 f5
      have b0 := hB2.cell 0
      have b1 := hB2.cell 1
      simp only [List.getElem?_cons_zero, List.getElem?_cons_succ] at b0 b1
      have hB5 := hB2
      clear HC' H hiz hcut hd
      have hsr := msum_range (feb (p0 + 1900 + 100)) (by unfold feb; split <;> omega) m
      have hms0 := hsr.1
      have hms1 : msum (feb (p0 + 1900 + 100)) m ≤ 400 := by omega
      clear hsr
      have hml := (mlen_range (feb (p0 + 1900 + 100)) (by unfold feb; split <;> omega) m).2
      obtain ⟨s, hs⟩ : ∃ s, s = msum (feb (p0 + 1900 + 100)) m := ⟨_, rfl⟩
      obtain ⟨l, hl⟩ : ∃ s, s = mlen (feb (p0 + 1900 + 100)) m := ⟨_, rfl⟩
      have hcall := fun W => days_any (p0 + 1900 + 100) m hm (by omega) (by omega) W
      rw [← hs] at hcall hms0 hms1
      rw [← hl] at hcall h2b hml
      have HS := Lib.hid hs
      have HL := Lib.hid hl
      clear hs hl
      repeat' go_step
      refine (hcall _).mono ?_
      rintro _ w3 ⟨rfl, hE3⟩
      dsimp only
      obtain ⟨q4, hq4⟩ : ∃ q, q = (p0 + 1900 + 100 - 1) / 4 := ⟨_, rfl⟩
      obtain ⟨q1, hq1⟩ : ∃ q, q = (p0 + 1900 + 100 - 1) / 100 := ⟨_, rfl⟩
      obtain ⟨q0, hq0⟩ : ∃ q, q = (p0 + 1900 + 100 - 1) / 400 := ⟨_, rfl⟩
      have d4 : Int.tdiv (p0 + 1900 + 100 - 1) 4 = q4 := by rw [Int.tdiv_eq_ediv_of_nonneg (by omega)]; omega
      have d1 : Int.tdiv (p0 + 1900 + 100 - 1) 100 = q1 := by rw [Int.tdiv_eq_ediv_of_nonneg (by omega)]; omega
      have d0 : Int.tdiv (p0 + 1900 + 100 - 1) 400 = q0 := by rw [Int.tdiv_eq_ediv_of_nonneg (by omega)]; omega
      have k4 : 0 ≤ q4 ∧ q4 ≤ 3000 := by omega
      have k1 : 0 ≤ q1 ∧ q1 ≤ 3000 := by omega
      have k0 : 0 ≤ q0 ∧ q0 ≤ 3000 := by omega
      have k5 : q1 ≤ q4 := by omega
      have k6 : 477 ≤ q4 - q1 + q0 := by omega
      have HQ := Lib.hid (And.intro hq4 (And.intro hq1 hq0))
      clear hq4 hq1 hq0
      have hEE : Ext w w3 := OnS.trans hE2 (OnS.weaken hE3 (fun _ _ _ => trivial))
      have e0 := hE3.cell f0 trivial
      have e1 := hE3.cell f1 trivial
      have e2 := hE3.cell f2 trivial
      have e3 := hE3.cell f3 trivial
      have e4 := hE3.cell f4 trivial
      have e5 := hE3.cell f5 trivial
      clear f0 f1 f2 f3 f4 f5 b0 b1
      repeat' go_step
      go_quiet (fail)
      repeat' go_step
      go_ret2
      refine ⟨?_, hEE.trans (OnS.drewN _ _)⟩
      rw [← HS.out, ← HQ.out.1, ← HQ.out.2.1, ← HQ.out.2.2]
      rfl

end Go.Proofs.Ytikekdifipacmaa
