import Derived.Test.YtikekdifipacmaaD2
import Derived.Test.YtikekdifipacmaaK6
namespace Go.Proofs.Ytikekdifipacmaa
open Go.RowKit

set_option maxHeartbeats 2000000 in
theorem read_ok1 {S : Nat → Prop} {A : Option Addr} {n c : Nat} {b : List Int} (w : World) (H : SR S w tU8 A n c b) (h2 : 2 ≤ n) (h4 : n ≤ 4096) (ht : b.getD 0 0 % 32 ≠ 31) (hx : b.getD 1 0 < 128) (hx2 : b.getD 1 0 + 2 ≤ (n : Int)) :
    Calls Try.prog 13 #[.slice A n c] w fun x w' => ∃ v, x = .returned v ∧ Ext w w' ∧ RdRes w.heap.size w' v (b.getD 0 0) ((b.drop 2).take (b.getD 1 0).toNat) ((b.drop 2).drop (b.getD 1 0).toNat) 0 := by
  have hl := H.len
  have hs := H.small
  obtain ⟨ad0, x0, e0, hi0, hc0, hs0, hr0, hr0'⟩ := H.idx8 Try.underlying25 Try.size5 .i64 0 0 rfl (by omega)
  obtain ⟨ad1, x1, e1, hi1, hc1, hs1, hr1, hr1'⟩ := H.idx8 Try.underlying25 Try.size5 .i64 1 1 rfl (by omega)
  obtain ⟨A2, n2, c2, hcut, H2, hn2, hn2'⟩ := H.cutL Try.underlying25 Try.size5 .i64 2 2 rfl (by omega)
  rw [e0] at ht; rw [e1] at hx hx2
  have ht' : (x0 % 32 == 31) = false := by simpa using ht
  have E0 := Lib.hid e0
  have E1 := Lib.hid e1
  clear e0 e1
  obtain ⟨hcut2, H3⟩ := H2.cutH Try.underlying25 (by rw [Try.size5]; rfl) .i64 x1 x1.toNat (by omega) (by omega)
  obtain ⟨A8, n8, c8, hcut8, H8, hn8, hn8'⟩ := H2.cutL Try.underlying25 Try.size5 .i64 x1 x1.toNat (by omega) (by omega)
  have hle : x1 ≤ n2 := by omega
  rw [E0.out, E1.out]
  go_enter Try.func13, Try.ntmps13
  iterate 6 go_step
  generalize hw1 : World.alloc w _ = w1
  have hB : Bx w1 w.heap.size 28 [.int .u8 0, .slice none 0 0] := hw1 ▸ Bx.new w [.int .u8 0, .slice none 0 0] 28
  have hE : Ext w w1 := hw1 ▸ OnS.alloc w _
  have hb0 := hB.cell 0
  have hb1 := hB.cell 1
  have hf0 := hB.frozen 0
  have hf1 := hB.frozen 1
  simp only [List.getElem?_cons_zero, List.getElem?_cons_succ] at hb0 hb1
  clear hw1
  have hk0 := hE.cell hc0 trivial
  have hk1 := hE.cell hc1 trivial
  repeat' go_step
  go_quiet (fail)
  repeat' go_step
  generalize hw2 : World.drewN w1 _ = w2
  have hE2 : Ext w w2 := hE.trans (hw2 ▸ OnS.drewN w1 _)
  have hB2 : Bx w2 w.heap.size 28 [.int .u8 0, .slice none 0 0] := hB.to (hw2 ▸ OnS.drewN w1 _) trivial
  clear hw2
  -- the last statement: two copies, in either order
  have hk2z := hE2.cell hc0 trivial
  refine region_ms (by kernel_rfl) 12 (by kernel_rfl) (by decide) ?_
  simp only [List.take_succ_cons, List.take_zero, List.drop_succ_cons, List.drop_zero]
  refine ms_val (.slice A n c) rfl (fun ρ W hE' hh => by simp [toldE, lk, Op.operands, Act.eval] at hh; go_simp) ?_
  refine ms_val (.pointer (some ad0)) rfl (fun ρ W hE' hh => by simp [toldE, lk, Op.operands, Act.eval] at hh; go_simp) ?_
  refine ms_val (.int .u8 x0) rfl (fun ρ W hE' hh => by have hk3 := hE'.cell hk2z trivial; simp [toldE, lk, Op.operands, Act.eval] at hh; go_simp) ?_
  refine ms_val (.slice A2 n2 c2) rfl (fun ρ W hE' hh => by simp [toldE, lk, Op.operands, Act.eval] at hh; go_simp) ?_
  refine ms_val (.int .i64 (x1)) rfl (fun ρ W hE' hh => by simp [toldE, lk, Op.operands, Act.eval] at hh; go_simp) ?_
  refine ms_val (.slice A2 (x1).toNat c2) rfl (fun ρ W hE' hh => by simp [toldE, lk, Op.operands, Act.eval] at hh; go_simp) ?_
  refine ms_any (fun v W => ∃ A' c', v = .slice A' (x1).toNat c' ∧ SR (fun k => w2.heap.size ≤ k) W tU8 A' (x1).toNat c' ((b.drop 2).take (x1).toNat)) rfl (fun v W W' hx ⟨A', c', h1, h2⟩ => ⟨A', c', h1, h2.mono (OnS.ext hx)⟩) (fun ρ W hE' hh => by
    simp [toldE, lk, Op.operands, Call.operands, Act.eval] at hh
    refine runs_call (f := 24) (args := #[.slice A2 (x1).toNat c2]) (by go_simp) ((clone8 W (H3.mono (OnS.ext (hE2.trans hE')))).mono ?_)
    rintro e W' ⟨A', c', rfl, hEE, hSR, -⟩
    exact ⟨_, rfl, hEE, A', c', rfl, hSR.weaken (by decide) (fun k _ hk => by have := hE'.size; omega)⟩) ?_
  refine ms_any (fun v W => ∃ A' c', v = .agg #[.int .u8 x0, .slice A' (x1).toNat c'] ∧ SR (fun k => w2.heap.size ≤ k) W tU8 A' (x1).toNat c' ((b.drop 2).take (x1).toNat)) rfl (fun v W W' hx ⟨A', c', h1, h2⟩ => ⟨A', c', h1, h2.mono (OnS.ext hx)⟩) (fun ρ W hE' hh => by
    simp [toldE, lk, Op.operands, Act.eval] at hh
    obtain ⟨h1, A', c', h2, h3⟩ := hh
    exact runs_val (v := .agg #[.int .u8 x0, .slice A' (x1).toNat c']) (w' := W) (by go_simp) (OnS.refl _ _) ⟨A', c', rfl, h3⟩) ?_
  refine ms_val (.slice A2 n2 c2) rfl (fun ρ W hE' hh => by simp [toldE, lk, Op.operands, Act.eval] at hh; go_simp) ?_
  refine ms_val (.int .i64 (x1)) rfl (fun ρ W hE' hh => by simp [toldE, lk, Op.operands, Act.eval] at hh; go_simp) ?_
  refine ms_val (.slice A8 n8 c8) rfl (fun ρ W hE' hh => by simp [toldE, lk, Op.operands, Act.eval] at hh; go_simp) ?_
  refine ms_any (fun v W => ∃ A' c', v = .slice A' n8 c' ∧ SR (fun k => w2.heap.size ≤ k) W tU8 A' n8 c' ((b.drop 2).drop (x1).toNat)) rfl (fun v W W' hx ⟨A', c', h1, h2⟩ => ⟨A', c', h1, h2.mono (OnS.ext hx)⟩) (fun ρ W hE' hh => by
    simp [toldE, lk, Op.operands, Call.operands, Act.eval] at hh
    refine runs_call (f := 24) (args := #[.slice A8 n8 c8]) (by go_simp) ((clone8 W (H8.mono (OnS.ext (hE2.trans hE')))).mono ?_)
    rintro e W' ⟨A', c', rfl, hEE, hSR, -⟩
    exact ⟨_, rfl, hEE, A', c', rfl, hSR.weaken (by decide) (fun k _ hk => by have := hE'.size; omega)⟩) ?_
  intro W hE'
  simp only [FinE]
  rintro _ rfl _ rfl _ rfl _ rfl _ rfl _ rfl v85 - _ ⟨A', c', rfl, hR1⟩ _ rfl _ rfl _ rfl _ ⟨A'', c'', rfl, hR2⟩
  simp only [Act.put, List.setIfInBounds_toArray, List.set_cons_zero, List.set_cons_succ]
  have hB3 := hB2.to hE' trivial
  have hz3 := hB2.lt
  have hb30 := hB3.cell 0
  have hb31 := hB3.cell 1
  have hf30 := hB3.frozen 0
  have hf31 := hB3.frozen 1
  simp only [List.getElem?_cons_zero, List.getElem?_cons_succ] at hb30 hb31
  repeat' go_step
  have hO : ∀ (u v : Value), OnS (· ≠ w.heap.size) W ((W.setCell ⟨w.heap.size, 0, none⟩ u).setCell ⟨w.heap.size, 1, none⟩ v) := fun u v => (OnS.setCell W ⟨w.heap.size, 0, none⟩ u).trans (OnS.setCell _ ⟨w.heap.size, 1, none⟩ v)
  refine bodyPost_ret (res13 ((hB3.set 0 (.int .u8 x0)).set 1 (.slice A' (x1).toNat c')) _ rfl rfl rfl) rfl ⟨_, rfl, ?_, A', (x1).toNat, c', A'', n8, c'', rfl, ?_, ?_⟩
  · exact OnS.since (hE2.trans hE') (hO _ _) (fun i hi _ => by omega)
  · exact ((hR1.weaken (S' := fun k => w.heap.size < k) (by decide) (fun k _ hk => by omega)).mono ((hO _ _).weaken (fun k _ hk => by omega))).weaken (by decide) (fun k _ hk => by omega)
  · exact ((hR2.weaken (S' := fun k => w.heap.size < k) (by decide) (fun k _ hk => by omega)).mono ((hO _ _).weaken (fun k _ hk => by omega))).weaken (by decide) (fun k _ hk => by omega)

set_option maxHeartbeats 1000000 in
theorem read_e9 {S : Nat → Prop} {A : Option Addr} {n c : Nat} {b : List Int} (w : World) (H : SR S w tU8 A n c b) (h2 : 2 ≤ n) (h4 : n ≤ 4096) (ht : b.getD 0 0 % 32 ≠ 31) (hx : b.getD 1 0 = 129 ∧ 3 ≤ n) (hy : 0 < b.getD 2 0 ∧ b.getD 2 0 < 128) :
    Calls Try.prog 13 #[.slice A n c] w fun x w' => ∃ v, x = .returned v ∧ Ext w w' ∧ RdRes w.heap.size w' v 0 [] [] 30 := by
  have hl := H.len
  have hs := H.small
  obtain ⟨ad0, x0, e0, hi0, hc0, hs0, hr0, hr0'⟩ := H.idx8 Try.underlying25 Try.size5 .i64 0 0 rfl (by omega)
  obtain ⟨ad1, x1, e1, hi1, hc1, hs1, hr1, hr1'⟩ := H.idx8 Try.underlying25 Try.size5 .i64 1 1 rfl (by omega)
  obtain ⟨A2, n2, c2, hcut, H2, hn2, hn2'⟩ := H.cutL Try.underlying25 Try.size5 .i64 2 2 rfl (by omega)
  rw [e0] at ht; rw [e1] at hx
  have ht' : (x0 % 32 == 31) = false := by simpa using ht
  have E0 := Lib.hid e0
  have E1 := Lib.hid e1
  clear e0 e1
  obtain ⟨hxa, hxc⟩ := hx
  subst hxa
  obtain ⟨ad2, x2, e2, hi2, hc2, hs2, hr2, hr2'⟩ := H2.idx8 Try.underlying25 Try.size5 .i64 0 0 rfl (by omega)
  have e2' : b.getD 2 0 = x2 := by rw [← e2]; simp [List.getD_eq_getElem?_getD, List.getElem?_drop]
  clear e2
  have E2 := Lib.hid e2'
  rw [e2'] at hy
  obtain ⟨hy1, hy2⟩ := hy
  clear e2'
  have hy' : (x2 == 0) = false := by rw [beq_eq_false_iff_ne]; omega
  obtain ⟨hcut1, H1⟩ := H2.cutH Try.underlying25 (by rw [Try.size5]; rfl) .i64 1 1 rfl (by omega)
  obtain ⟨ad3, x3, e3, hi3, hc3, hs3, hr3, hr3'⟩ := H1.idx8 Try.underlying25 Try.size5 .i64 0 0 rfl (by omega)
  have e3' : x3 = x2 := by rw [← e3, ← E2.out]; simp [List.getD_eq_getElem?_getD, List.getElem?_drop, List.getElem?_take]
  subst e3'
  clear e3
  have hor := i64_or0 x3 hr3 hr3'
  obtain ⟨A6, n6, c6, hcut6, H6, hn6, hn6'⟩ := H2.cutL Try.underlying25 Try.size5 .i64 1 1 rfl (by omega)
  rw [List.drop_drop] at H6
  go_enter Try.func13, Try.ntmps13
  iterate 6 go_step
  generalize hw1 : World.alloc w _ = w1
  have hB : Bx w1 w.heap.size 28 [.int .u8 0, .slice none 0 0] := hw1 ▸ Bx.new w [.int .u8 0, .slice none 0 0] 28
  have hE : Ext w w1 := hw1 ▸ OnS.alloc w _
  have hb0 := hB.cell 0
  have hb1 := hB.cell 1
  have hf0 := hB.frozen 0
  have hf1 := hB.frozen 1
  simp only [List.getElem?_cons_zero, List.getElem?_cons_succ] at hb0 hb1
  clear hw1
  have hk0 := hE.cell hc0 trivial
  have hk1 := hE.cell hc1 trivial
  have hk2 := hE.cell hc2 trivial
  have hk3 := hE.cell hc3 trivial
  repeat' go_step
  go_quiet (fail)
  repeat' go_step
  refine wp_loop_rounds 2 ?_
  simp only [Code.rounds]
  repeat' go_step
  generalize hw2 : World.drewN w1 _ = w2
  have hE2 : Ext w w2 := hE.trans (hw2 ▸ OnS.drewN w1 _)
  have hB2 : Bx w2 w.heap.size 28 [.int .u8 0, .slice none 0 0] := hB.to (hw2 ▸ OnS.drewN w1 _) trivial
  clear hw2
  exact bad_ret hE2 hB2 rfl rfl rfl rfl

set_option maxHeartbeats 1000000 in
theorem read_e10 {S : Nat → Prop} {A : Option Addr} {n c : Nat} {b : List Int} (w : World) (H : SR S w tU8 A n c b) (h2 : 2 ≤ n) (h4 : n ≤ 4096) (ht : b.getD 0 0 % 32 ≠ 31) (hx : b.getD 1 0 = 129 ∧ 3 ≤ n) (hy : 128 ≤ b.getD 2 0 ∧ (n : Int) < b.getD 2 0 + 3) :
    Calls Try.prog 13 #[.slice A n c] w fun x w' => ∃ v, x = .returned v ∧ Ext w w' ∧ RdRes w.heap.size w' v 0 [] [] 30 := by
  have hl := H.len
  have hs := H.small
  obtain ⟨ad0, x0, e0, hi0, hc0, hs0, hr0, hr0'⟩ := H.idx8 Try.underlying25 Try.size5 .i64 0 0 rfl (by omega)
  obtain ⟨ad1, x1, e1, hi1, hc1, hs1, hr1, hr1'⟩ := H.idx8 Try.underlying25 Try.size5 .i64 1 1 rfl (by omega)
  obtain ⟨A2, n2, c2, hcut, H2, hn2, hn2'⟩ := H.cutL Try.underlying25 Try.size5 .i64 2 2 rfl (by omega)
  rw [e0] at ht; rw [e1] at hx
  have ht' : (x0 % 32 == 31) = false := by simpa using ht
  have E0 := Lib.hid e0
  have E1 := Lib.hid e1
  clear e0 e1
  obtain ⟨hxa, hxc⟩ := hx
  subst hxa
  obtain ⟨ad2, x2, e2, hi2, hc2, hs2, hr2, hr2'⟩ := H2.idx8 Try.underlying25 Try.size5 .i64 0 0 rfl (by omega)
  have e2' : b.getD 2 0 = x2 := by rw [← e2]; simp [List.getD_eq_getElem?_getD, List.getElem?_drop]
  clear e2
  have E2 := Lib.hid e2'
  rw [e2'] at hy
  obtain ⟨hy1, hy2⟩ := hy
  clear e2'
  have hy' : (x2 == 0) = false := by rw [beq_eq_false_iff_ne]; omega
  obtain ⟨hcut1, H1⟩ := H2.cutH Try.underlying25 (by rw [Try.size5]; rfl) .i64 1 1 rfl (by omega)
  obtain ⟨ad3, x3, e3, hi3, hc3, hs3, hr3, hr3'⟩ := H1.idx8 Try.underlying25 Try.size5 .i64 0 0 rfl (by omega)
  have e3' : x3 = x2 := by rw [← e3, ← E2.out]; simp [List.getD_eq_getElem?_getD, List.getElem?_drop, List.getElem?_take]
  subst e3'
  clear e3
  have hor := i64_or0 x3 hr3 hr3'
  obtain ⟨A6, n6, c6, hcut6, H6, hn6, hn6'⟩ := H2.cutL Try.underlying25 Try.size5 .i64 1 1 rfl (by omega)
  rw [List.drop_drop] at H6
  have hle : (n6 : Int) < x3 := by omega
  go_enter Try.func13, Try.ntmps13
  iterate 6 go_step
  generalize hw1 : World.alloc w _ = w1
  have hB : Bx w1 w.heap.size 28 [.int .u8 0, .slice none 0 0] := hw1 ▸ Bx.new w [.int .u8 0, .slice none 0 0] 28
  have hE : Ext w w1 := hw1 ▸ OnS.alloc w _
  have hb0 := hB.cell 0
  have hb1 := hB.cell 1
  have hf0 := hB.frozen 0
  have hf1 := hB.frozen 1
  simp only [List.getElem?_cons_zero, List.getElem?_cons_succ] at hb0 hb1
  clear hw1
  have hk0 := hE.cell hc0 trivial
  have hk1 := hE.cell hc1 trivial
  have hk2 := hE.cell hc2 trivial
  have hk3 := hE.cell hc3 trivial
  repeat' go_step
  go_quiet (fail)
  repeat' go_step
  refine wp_loop_rounds 2 ?_
  simp only [Code.rounds]
  repeat' go_step
  generalize hw2 : World.drewN w1 _ = w2
  have hE2 : Ext w w2 := hE.trans (hw2 ▸ OnS.drewN w1 _)
  have hB2 : Bx w2 w.heap.size 28 [.int .u8 0, .slice none 0 0] := hB.to (hw2 ▸ OnS.drewN w1 _) trivial
  clear hw2
  exact bad_ret hE2 hB2 rfl rfl rfl rfl

set_option maxHeartbeats 2000000 in
theorem read_ok2 {S : Nat → Prop} {A : Option Addr} {n c : Nat} {b : List Int} (w : World) (H : SR S w tU8 A n c b) (h2 : 2 ≤ n) (h4 : n ≤ 4096) (ht : b.getD 0 0 % 32 ≠ 31) (hx : b.getD 1 0 = 129 ∧ 3 ≤ n) (hy : 128 ≤ b.getD 2 0 ∧ b.getD 2 0 + 3 ≤ (n : Int)) :
    Calls Try.prog 13 #[.slice A n c] w fun x w' => ∃ v, x = .returned v ∧ Ext w w' ∧ RdRes w.heap.size w' v (b.getD 0 0) ((b.drop 3).take (b.getD 2 0).toNat) ((b.drop 3).drop (b.getD 2 0).toNat) 0 := by
  have hl := H.len
  have hs := H.small
  obtain ⟨ad0, x0, e0, hi0, hc0, hs0, hr0, hr0'⟩ := H.idx8 Try.underlying25 Try.size5 .i64 0 0 rfl (by omega)
  obtain ⟨ad1, x1, e1, hi1, hc1, hs1, hr1, hr1'⟩ := H.idx8 Try.underlying25 Try.size5 .i64 1 1 rfl (by omega)
  obtain ⟨A2, n2, c2, hcut, H2, hn2, hn2'⟩ := H.cutL Try.underlying25 Try.size5 .i64 2 2 rfl (by omega)
  rw [e0] at ht; rw [e1] at hx
  have ht' : (x0 % 32 == 31) = false := by simpa using ht
  have E0 := Lib.hid e0
  have E1 := Lib.hid e1
  clear e0 e1
  obtain ⟨hxa, hxc⟩ := hx
  subst hxa
  obtain ⟨ad2, x2, e2, hi2, hc2, hs2, hr2, hr2'⟩ := H2.idx8 Try.underlying25 Try.size5 .i64 0 0 rfl (by omega)
  have e2' : b.getD 2 0 = x2 := by rw [← e2]; simp [List.getD_eq_getElem?_getD, List.getElem?_drop]
  clear e2
  have E2 := Lib.hid e2'
  rw [e2'] at hy
  obtain ⟨hy1, hy2⟩ := hy
  clear e2'
  have hy' : (x2 == 0) = false := by rw [beq_eq_false_iff_ne]; omega
  obtain ⟨hcut1, H1⟩ := H2.cutH Try.underlying25 (by rw [Try.size5]; rfl) .i64 1 1 rfl (by omega)
  obtain ⟨ad3, x3, e3, hi3, hc3, hs3, hr3, hr3'⟩ := H1.idx8 Try.underlying25 Try.size5 .i64 0 0 rfl (by omega)
  have e3' : x3 = x2 := by rw [← e3, ← E2.out]; simp [List.getD_eq_getElem?_getD, List.getElem?_drop, List.getElem?_take]
  subst e3'
  clear e3
  have hor := i64_or0 x3 hr3 hr3'
  obtain ⟨A6, n6, c6, hcut6, H6, hn6, hn6'⟩ := H2.cutL Try.underlying25 Try.size5 .i64 1 1 rfl (by omega)
  rw [List.drop_drop] at H6
  obtain ⟨hcut2, H3⟩ := H6.cutH Try.underlying25 (by rw [Try.size5]; rfl) .i64 (x3) (x3).toNat (by omega) (by omega)
  obtain ⟨A8, n8, c8, hcut8, H8, hn8, hn8'⟩ := H6.cutL Try.underlying25 Try.size5 .i64 (x3) (x3).toNat (by omega) (by omega)
  have hle : (x3) ≤ n6 := by omega
  rw [E0.out, E2.out]
  go_enter Try.func13, Try.ntmps13
  iterate 6 go_step
  generalize hw1 : World.alloc w _ = w1
  have hB : Bx w1 w.heap.size 28 [.int .u8 0, .slice none 0 0] := hw1 ▸ Bx.new w [.int .u8 0, .slice none 0 0] 28
  have hE : Ext w w1 := hw1 ▸ OnS.alloc w _
  have hb0 := hB.cell 0
  have hb1 := hB.cell 1
  have hf0 := hB.frozen 0
  have hf1 := hB.frozen 1
  simp only [List.getElem?_cons_zero, List.getElem?_cons_succ] at hb0 hb1
  clear hw1
  have hk0 := hE.cell hc0 trivial
  have hk1 := hE.cell hc1 trivial
  have hk2 := hE.cell hc2 trivial
  have hk3 := hE.cell hc3 trivial
  repeat' go_step
  go_quiet (fail)
  repeat' go_step
  refine wp_loop_rounds 2 ?_
  simp only [Code.rounds]
  repeat' go_step
  generalize hw2 : World.drewN w1 _ = w2
  have hE2 : Ext w w2 := hE.trans (hw2 ▸ OnS.drewN w1 _)
  have hB2 : Bx w2 w.heap.size 28 [.int .u8 0, .slice none 0 0] := hB.to (hw2 ▸ OnS.drewN w1 _) trivial
  clear hw2
  -- the last statement: two copies, in either order
  have hk2z := hE2.cell hc0 trivial
  refine region_ms (by kernel_rfl) 12 (by kernel_rfl) (by decide) ?_
  simp only [List.take_succ_cons, List.take_zero, List.drop_succ_cons, List.drop_zero]
  refine ms_val (.slice A n c) rfl (fun ρ W hE' hh => by simp [toldE, lk, Op.operands, Act.eval] at hh; go_simp) ?_
  refine ms_val (.pointer (some ad0)) rfl (fun ρ W hE' hh => by simp [toldE, lk, Op.operands, Act.eval] at hh; go_simp) ?_
  refine ms_val (.int .u8 x0) rfl (fun ρ W hE' hh => by have hk3 := hE'.cell hk2z trivial; simp [toldE, lk, Op.operands, Act.eval] at hh; go_simp) ?_
  refine ms_val (.slice A6 n6 c6) rfl (fun ρ W hE' hh => by simp [toldE, lk, Op.operands, Act.eval] at hh; go_simp) ?_
  refine ms_val (.int .i64 (x3)) rfl (fun ρ W hE' hh => by simp [toldE, lk, Op.operands, Act.eval] at hh; go_simp) ?_
  refine ms_val (.slice A6 (x3).toNat c6) rfl (fun ρ W hE' hh => by simp [toldE, lk, Op.operands, Act.eval] at hh; go_simp) ?_
  refine ms_any (fun v W => ∃ A' c', v = .slice A' (x3).toNat c' ∧ SR (fun k => w2.heap.size ≤ k) W tU8 A' (x3).toNat c' ((b.drop (2 + 1)).take (x3).toNat)) rfl (fun v W W' hx ⟨A', c', h1, h2⟩ => ⟨A', c', h1, h2.mono (OnS.ext hx)⟩) (fun ρ W hE' hh => by
    simp [toldE, lk, Op.operands, Call.operands, Act.eval] at hh
    refine runs_call (f := 24) (args := #[.slice A6 (x3).toNat c6]) (by go_simp) ((clone8 W (H3.mono (OnS.ext (hE2.trans hE')))).mono ?_)
    rintro e W' ⟨A', c', rfl, hEE, hSR, -⟩
    exact ⟨_, rfl, hEE, A', c', rfl, hSR.weaken (by decide) (fun k _ hk => by have := hE'.size; omega)⟩) ?_
  refine ms_any (fun v W => ∃ A' c', v = .agg #[.int .u8 x0, .slice A' (x3).toNat c'] ∧ SR (fun k => w2.heap.size ≤ k) W tU8 A' (x3).toNat c' ((b.drop (2 + 1)).take (x3).toNat)) rfl (fun v W W' hx ⟨A', c', h1, h2⟩ => ⟨A', c', h1, h2.mono (OnS.ext hx)⟩) (fun ρ W hE' hh => by
    simp [toldE, lk, Op.operands, Act.eval] at hh
    obtain ⟨h1, A', c', h2, h3⟩ := hh
    exact runs_val (v := .agg #[.int .u8 x0, .slice A' (x3).toNat c']) (w' := W) (by go_simp) (OnS.refl _ _) ⟨A', c', rfl, h3⟩) ?_
  refine ms_val (.slice A6 n6 c6) rfl (fun ρ W hE' hh => by simp [toldE, lk, Op.operands, Act.eval] at hh; go_simp) ?_
  refine ms_val (.int .i64 (x3)) rfl (fun ρ W hE' hh => by simp [toldE, lk, Op.operands, Act.eval] at hh; go_simp) ?_
  refine ms_val (.slice A8 n8 c8) rfl (fun ρ W hE' hh => by simp [toldE, lk, Op.operands, Act.eval] at hh; go_simp) ?_
  refine ms_any (fun v W => ∃ A' c', v = .slice A' n8 c' ∧ SR (fun k => w2.heap.size ≤ k) W tU8 A' n8 c' ((b.drop (2 + 1)).drop (x3).toNat)) rfl (fun v W W' hx ⟨A', c', h1, h2⟩ => ⟨A', c', h1, h2.mono (OnS.ext hx)⟩) (fun ρ W hE' hh => by
    simp [toldE, lk, Op.operands, Call.operands, Act.eval] at hh
    refine runs_call (f := 24) (args := #[.slice A8 n8 c8]) (by go_simp) ((clone8 W (H8.mono (OnS.ext (hE2.trans hE')))).mono ?_)
    rintro e W' ⟨A', c', rfl, hEE, hSR, -⟩
    exact ⟨_, rfl, hEE, A', c', rfl, hSR.weaken (by decide) (fun k _ hk => by have := hE'.size; omega)⟩) ?_
  intro W hE'
  simp only [FinE]
  rintro _ rfl _ rfl _ rfl _ rfl _ rfl _ rfl v85 - _ ⟨A', c', rfl, hR1⟩ _ rfl _ rfl _ rfl _ ⟨A'', c'', rfl, hR2⟩
  simp only [Act.put, List.setIfInBounds_toArray, List.set_cons_zero, List.set_cons_succ]
  have hB3 := hB2.to hE' trivial
  have hz3 := hB2.lt
  have hb30 := hB3.cell 0
  have hb31 := hB3.cell 1
  have hf30 := hB3.frozen 0
  have hf31 := hB3.frozen 1
  simp only [List.getElem?_cons_zero, List.getElem?_cons_succ] at hb30 hb31
  repeat' go_step
  have hO : ∀ (u v : Value), OnS (· ≠ w.heap.size) W ((W.setCell ⟨w.heap.size, 0, none⟩ u).setCell ⟨w.heap.size, 1, none⟩ v) := fun u v => (OnS.setCell W ⟨w.heap.size, 0, none⟩ u).trans (OnS.setCell _ ⟨w.heap.size, 1, none⟩ v)
  refine bodyPost_ret (res13 ((hB3.set 0 (.int .u8 x0)).set 1 (.slice A' (x3).toNat c')) _ rfl rfl rfl) rfl ⟨_, rfl, ?_, A', (x3).toNat, c', A'', n8, c'', rfl, ?_, ?_⟩
  · exact OnS.since (hE2.trans hE') (hO _ _) (fun i hi _ => by omega)
  · exact ((hR1.weaken (S' := fun k => w.heap.size < k) (by decide) (fun k _ hk => by omega)).mono ((hO _ _).weaken (fun k _ hk => by omega))).weaken (by decide) (fun k _ hk => by omega)
  · exact ((hR2.weaken (S' := fun k => w.heap.size < k) (by decide) (fun k _ hk => by omega)).mono ((hO _ _).weaken (fun k _ hk => by omega))).weaken (by decide) (fun k _ hk => by omega)

set_option maxHeartbeats 1000000 in
theorem read_e11 {S : Nat → Prop} {A : Option Addr} {n c : Nat} {b : List Int} (w : World) (H : SR S w tU8 A n c b) (h2 : 2 ≤ n) (h4 : n ≤ 4096) (ht : b.getD 0 0 % 32 ≠ 31) (hx : b.getD 1 0 = 130 ∧ 4 ≤ n) (hy : 0 < b.getD 2 0) (hz : b.getD 2 0 * 256 + b.getD 3 0 < 128) :
    Calls Try.prog 13 #[.slice A n c] w fun x w' => ∃ v, x = .returned v ∧ Ext w w' ∧ RdRes w.heap.size w' v 0 [] [] 30 := by
  have hl := H.len
  have hs := H.small
  obtain ⟨ad0, x0, e0, hi0, hc0, hs0, hr0, hr0'⟩ := H.idx8 Try.underlying25 Try.size5 .i64 0 0 rfl (by omega)
  obtain ⟨ad1, x1, e1, hi1, hc1, hs1, hr1, hr1'⟩ := H.idx8 Try.underlying25 Try.size5 .i64 1 1 rfl (by omega)
  obtain ⟨A2, n2, c2, hcut, H2, hn2, hn2'⟩ := H.cutL Try.underlying25 Try.size5 .i64 2 2 rfl (by omega)
  rw [e0] at ht; rw [e1] at hx
  have ht' : (x0 % 32 == 31) = false := by simpa using ht
  have E0 := Lib.hid e0
  have E1 := Lib.hid e1
  clear e0 e1
  obtain ⟨hxa, hxc⟩ := hx
  subst hxa
  obtain ⟨ad2, x2, e2, hi2, hc2, hs2, hr2, hr2'⟩ := H2.idx8 Try.underlying25 Try.size5 .i64 0 0 rfl (by omega)
  have e2' : b.getD 2 0 = x2 := by rw [← e2]; simp [List.getD_eq_getElem?_getD, List.getElem?_drop]
  clear e2
  have E2 := Lib.hid e2'
  rw [e2'] at hy hz
  clear e2'
  have hy' : (x2 == 0) = false := by rw [beq_eq_false_iff_ne]; omega
  obtain ⟨hcut1, H1⟩ := H2.cutH Try.underlying25 (by rw [Try.size5]; rfl) .i64 2 2 rfl (by omega)
  obtain ⟨ad3, x3, e3, hi3, hc3, hs3, hr3, hr3'⟩ := H1.idx8 Try.underlying25 Try.size5 .i64 0 0 rfl (by omega)
  obtain ⟨ad4, x4, e4, hi4, hc4, hs4, hr4, hr4'⟩ := H1.idx8 Try.underlying25 Try.size5 .i64 1 1 rfl (by omega)
  have e3' : x3 = x2 := by rw [← e3, ← E2.out]; simp [List.getD_eq_getElem?_getD, List.getElem?_drop, List.getElem?_take]
  have e4' : b.getD 3 0 = x4 := by rw [← e4]; simp [List.getD_eq_getElem?_getD, List.getElem?_drop, List.getElem?_take]
  subst e3'
  have E4 := Lib.hid e4'
  clear e3 e4
  rw [e4'] at hz
  clear e4'
  have hor := i64_or0 x3 hr3 hr3'
  have hor2 := i64_or8 x3 x4 hr3 (by omega) hr4 hr4'
  have hm0 : 0 ≤ x3 * 256 + x4 := by omega
  have hm1 : x3 * 256 + x4 ≤ 65535 := by omega
  obtain ⟨A6, n6, c6, hcut6, H6, hn6, hn6'⟩ := H2.cutL Try.underlying25 Try.size5 .i64 2 2 rfl (by omega)
  rw [List.drop_drop] at H6
  omega

set_option maxHeartbeats 1000000 in
theorem read_e12 {S : Nat → Prop} {A : Option Addr} {n c : Nat} {b : List Int} (w : World) (H : SR S w tU8 A n c b) (h2 : 2 ≤ n) (h4 : n ≤ 4096) (ht : b.getD 0 0 % 32 ≠ 31) (hx : b.getD 1 0 = 130 ∧ 4 ≤ n) (hy : 0 < b.getD 2 0) (hz : (n : Int) < b.getD 2 0 * 256 + b.getD 3 0 + 4) :
    Calls Try.prog 13 #[.slice A n c] w fun x w' => ∃ v, x = .returned v ∧ Ext w w' ∧ RdRes w.heap.size w' v 0 [] [] 30 := by
  have hl := H.len
  have hs := H.small
  obtain ⟨ad0, x0, e0, hi0, hc0, hs0, hr0, hr0'⟩ := H.idx8 Try.underlying25 Try.size5 .i64 0 0 rfl (by omega)
  obtain ⟨ad1, x1, e1, hi1, hc1, hs1, hr1, hr1'⟩ := H.idx8 Try.underlying25 Try.size5 .i64 1 1 rfl (by omega)
  obtain ⟨A2, n2, c2, hcut, H2, hn2, hn2'⟩ := H.cutL Try.underlying25 Try.size5 .i64 2 2 rfl (by omega)
  rw [e0] at ht; rw [e1] at hx
  have ht' : (x0 % 32 == 31) = false := by simpa using ht
  have E0 := Lib.hid e0
  have E1 := Lib.hid e1
  clear e0 e1
  obtain ⟨hxa, hxc⟩ := hx
  subst hxa
  obtain ⟨ad2, x2, e2, hi2, hc2, hs2, hr2, hr2'⟩ := H2.idx8 Try.underlying25 Try.size5 .i64 0 0 rfl (by omega)
  have e2' : b.getD 2 0 = x2 := by rw [← e2]; simp [List.getD_eq_getElem?_getD, List.getElem?_drop]
  clear e2
  have E2 := Lib.hid e2'
  rw [e2'] at hy hz
  clear e2'
  have hy' : (x2 == 0) = false := by rw [beq_eq_false_iff_ne]; omega
  obtain ⟨hcut1, H1⟩ := H2.cutH Try.underlying25 (by rw [Try.size5]; rfl) .i64 2 2 rfl (by omega)
  obtain ⟨ad3, x3, e3, hi3, hc3, hs3, hr3, hr3'⟩ := H1.idx8 Try.underlying25 Try.size5 .i64 0 0 rfl (by omega)
  obtain ⟨ad4, x4, e4, hi4, hc4, hs4, hr4, hr4'⟩ := H1.idx8 Try.underlying25 Try.size5 .i64 1 1 rfl (by omega)
  have e3' : x3 = x2 := by rw [← e3, ← E2.out]; simp [List.getD_eq_getElem?_getD, List.getElem?_drop, List.getElem?_take]
  have e4' : b.getD 3 0 = x4 := by rw [← e4]; simp [List.getD_eq_getElem?_getD, List.getElem?_drop, List.getElem?_take]
  subst e3'
  have E4 := Lib.hid e4'
  clear e3 e4
  rw [e4'] at hz
  clear e4'
  have hor := i64_or0 x3 hr3 hr3'
  have hor2 := i64_or8 x3 x4 hr3 (by omega) hr4 hr4'
  have hm0 : 0 ≤ x3 * 256 + x4 := by omega
  have hm1 : x3 * 256 + x4 ≤ 65535 := by omega
  obtain ⟨A6, n6, c6, hcut6, H6, hn6, hn6'⟩ := H2.cutL Try.underlying25 Try.size5 .i64 2 2 rfl (by omega)
  rw [List.drop_drop] at H6
  have hle : (n6 : Int) < x3 * 256 + x4 := by omega
  have hge : 128 ≤ x3 * 256 + x4 := by omega
  go_enter Try.func13, Try.ntmps13
  iterate 6 go_step
  generalize hw1 : World.alloc w _ = w1
  have hB : Bx w1 w.heap.size 28 [.int .u8 0, .slice none 0 0] := hw1 ▸ Bx.new w [.int .u8 0, .slice none 0 0] 28
  have hE : Ext w w1 := hw1 ▸ OnS.alloc w _
  have hb0 := hB.cell 0
  have hb1 := hB.cell 1
  have hf0 := hB.frozen 0
  have hf1 := hB.frozen 1
  simp only [List.getElem?_cons_zero, List.getElem?_cons_succ] at hb0 hb1
  clear hw1
  have hk0 := hE.cell hc0 trivial
  have hk1 := hE.cell hc1 trivial
  have hk2 := hE.cell hc2 trivial
  have hk3 := hE.cell hc3 trivial
  have hk4 := hE.cell hc4 trivial
  repeat' go_step
  go_quiet (fail)
  repeat' go_step
  refine wp_loop_rounds 3 ?_
  simp only [Code.rounds]
  repeat' go_step
  generalize hw2 : World.drewN w1 _ = w2
  have hE2 : Ext w w2 := hE.trans (hw2 ▸ OnS.drewN w1 _)
  have hB2 : Bx w2 w.heap.size 28 [.int .u8 0, .slice none 0 0] := hB.to (hw2 ▸ OnS.drewN w1 _) trivial
  clear hw2
  exact bad_ret hE2 hB2 rfl rfl rfl rfl

set_option maxHeartbeats 2000000 in
theorem read_ok3 {S : Nat → Prop} {A : Option Addr} {n c : Nat} {b : List Int} (w : World) (H : SR S w tU8 A n c b) (h2 : 2 ≤ n) (h4 : n ≤ 4096) (ht : b.getD 0 0 % 32 ≠ 31) (hx : b.getD 1 0 = 130 ∧ 4 ≤ n) (hy : 0 < b.getD 2 0) (hz : b.getD 2 0 * 256 + b.getD 3 0 + 4 ≤ (n : Int)) :
    Calls Try.prog 13 #[.slice A n c] w fun x w' => ∃ v, x = .returned v ∧ Ext w w' ∧ RdRes w.heap.size w' v (b.getD 0 0) ((b.drop 4).take (b.getD 2 0 * 256 + b.getD 3 0).toNat) ((b.drop 4).drop (b.getD 2 0 * 256 + b.getD 3 0).toNat) 0 := by
  have hl := H.len
  have hs := H.small
  obtain ⟨ad0, x0, e0, hi0, hc0, hs0, hr0, hr0'⟩ := H.idx8 Try.underlying25 Try.size5 .i64 0 0 rfl (by omega)
  obtain ⟨ad1, x1, e1, hi1, hc1, hs1, hr1, hr1'⟩ := H.idx8 Try.underlying25 Try.size5 .i64 1 1 rfl (by omega)
  obtain ⟨A2, n2, c2, hcut, H2, hn2, hn2'⟩ := H.cutL Try.underlying25 Try.size5 .i64 2 2 rfl (by omega)
  rw [e0] at ht; rw [e1] at hx
  have ht' : (x0 % 32 == 31) = false := by simpa using ht
  have E0 := Lib.hid e0
  have E1 := Lib.hid e1
  clear e0 e1
  obtain ⟨hxa, hxc⟩ := hx
  subst hxa
  obtain ⟨ad2, x2, e2, hi2, hc2, hs2, hr2, hr2'⟩ := H2.idx8 Try.underlying25 Try.size5 .i64 0 0 rfl (by omega)
  have e2' : b.getD 2 0 = x2 := by rw [← e2]; simp [List.getD_eq_getElem?_getD, List.getElem?_drop]
  clear e2
  have E2 := Lib.hid e2'
  rw [e2'] at hy hz
  clear e2'
  have hy' : (x2 == 0) = false := by rw [beq_eq_false_iff_ne]; omega
  obtain ⟨hcut1, H1⟩ := H2.cutH Try.underlying25 (by rw [Try.size5]; rfl) .i64 2 2 rfl (by omega)
  obtain ⟨ad3, x3, e3, hi3, hc3, hs3, hr3, hr3'⟩ := H1.idx8 Try.underlying25 Try.size5 .i64 0 0 rfl (by omega)
  obtain ⟨ad4, x4, e4, hi4, hc4, hs4, hr4, hr4'⟩ := H1.idx8 Try.underlying25 Try.size5 .i64 1 1 rfl (by omega)
  have e3' : x3 = x2 := by rw [← e3, ← E2.out]; simp [List.getD_eq_getElem?_getD, List.getElem?_drop, List.getElem?_take]
  have e4' : b.getD 3 0 = x4 := by rw [← e4]; simp [List.getD_eq_getElem?_getD, List.getElem?_drop, List.getElem?_take]
  subst e3'
  have E4 := Lib.hid e4'
  clear e3 e4
  rw [e4'] at hz
  clear e4'
  have hor := i64_or0 x3 hr3 hr3'
  have hor2 := i64_or8 x3 x4 hr3 (by omega) hr4 hr4'
  have hm0 : 0 ≤ x3 * 256 + x4 := by omega
  have hm1 : x3 * 256 + x4 ≤ 65535 := by omega
  obtain ⟨A6, n6, c6, hcut6, H6, hn6, hn6'⟩ := H2.cutL Try.underlying25 Try.size5 .i64 2 2 rfl (by omega)
  rw [List.drop_drop] at H6
  obtain ⟨hcut2, H3⟩ := H6.cutH Try.underlying25 (by rw [Try.size5]; rfl) .i64 (x3 * 256 + x4) (x3 * 256 + x4).toNat (by omega) (by omega)
  obtain ⟨A8, n8, c8, hcut8, H8, hn8, hn8'⟩ := H6.cutL Try.underlying25 Try.size5 .i64 (x3 * 256 + x4) (x3 * 256 + x4).toNat (by omega) (by omega)
  have hle : (x3 * 256 + x4) ≤ n6 := by omega
  have hge : 128 ≤ x3 * 256 + x4 := by omega
  rw [E0.out, E2.out, E4.out]
  go_enter Try.func13, Try.ntmps13
  iterate 6 go_step
  generalize hw1 : World.alloc w _ = w1
  have hB : Bx w1 w.heap.size 28 [.int .u8 0, .slice none 0 0] := hw1 ▸ Bx.new w [.int .u8 0, .slice none 0 0] 28
  have hE : Ext w w1 := hw1 ▸ OnS.alloc w _
  have hb0 := hB.cell 0
  have hb1 := hB.cell 1
  have hf0 := hB.frozen 0
  have hf1 := hB.frozen 1
  simp only [List.getElem?_cons_zero, List.getElem?_cons_succ] at hb0 hb1
  clear hw1
  have hk0 := hE.cell hc0 trivial
  have hk1 := hE.cell hc1 trivial
  have hk2 := hE.cell hc2 trivial
  have hk3 := hE.cell hc3 trivial
  have hk4 := hE.cell hc4 trivial
  repeat' go_step
  go_quiet (fail)
  repeat' go_step
  refine wp_loop_rounds 3 ?_
  simp only [Code.rounds]
  repeat' go_step
  generalize hw2 : World.drewN w1 _ = w2
  have hE2 : Ext w w2 := hE.trans (hw2 ▸ OnS.drewN w1 _)
  have hB2 : Bx w2 w.heap.size 28 [.int .u8 0, .slice none 0 0] := hB.to (hw2 ▸ OnS.drewN w1 _) trivial
  clear hw2
  -- the last statement: two copies, in either order
  have hk2z := hE2.cell hc0 trivial
  refine region_ms (by kernel_rfl) 12 (by kernel_rfl) (by decide) ?_
  simp only [List.take_succ_cons, List.take_zero, List.drop_succ_cons, List.drop_zero]
  refine ms_val (.slice A n c) rfl (fun ρ W hE' hh => by simp [toldE, lk, Op.operands, Act.eval] at hh; go_simp) ?_
  refine ms_val (.pointer (some ad0)) rfl (fun ρ W hE' hh => by simp [toldE, lk, Op.operands, Act.eval] at hh; go_simp) ?_
  refine ms_val (.int .u8 x0) rfl (fun ρ W hE' hh => by have hk3 := hE'.cell hk2z trivial; simp [toldE, lk, Op.operands, Act.eval] at hh; go_simp) ?_
  refine ms_val (.slice A6 n6 c6) rfl (fun ρ W hE' hh => by simp [toldE, lk, Op.operands, Act.eval] at hh; go_simp) ?_
  refine ms_val (.int .i64 (x3 * 256 + x4)) rfl (fun ρ W hE' hh => by simp [toldE, lk, Op.operands, Act.eval] at hh; go_simp) ?_
  refine ms_val (.slice A6 (x3 * 256 + x4).toNat c6) rfl (fun ρ W hE' hh => by simp [toldE, lk, Op.operands, Act.eval] at hh; go_simp) ?_
  refine ms_any (fun v W => ∃ A' c', v = .slice A' (x3 * 256 + x4).toNat c' ∧ SR (fun k => w2.heap.size ≤ k) W tU8 A' (x3 * 256 + x4).toNat c' ((b.drop (2 + 2)).take (x3 * 256 + x4).toNat)) rfl (fun v W W' hx ⟨A', c', h1, h2⟩ => ⟨A', c', h1, h2.mono (OnS.ext hx)⟩) (fun ρ W hE' hh => by
    simp [toldE, lk, Op.operands, Call.operands, Act.eval] at hh
    refine runs_call (f := 24) (args := #[.slice A6 (x3 * 256 + x4).toNat c6]) (by go_simp) ((clone8 W (H3.mono (OnS.ext (hE2.trans hE')))).mono ?_)
    rintro e W' ⟨A', c', rfl, hEE, hSR, -⟩
    exact ⟨_, rfl, hEE, A', c', rfl, hSR.weaken (by decide) (fun k _ hk => by have := hE'.size; omega)⟩) ?_
  refine ms_any (fun v W => ∃ A' c', v = .agg #[.int .u8 x0, .slice A' (x3 * 256 + x4).toNat c'] ∧ SR (fun k => w2.heap.size ≤ k) W tU8 A' (x3 * 256 + x4).toNat c' ((b.drop (2 + 2)).take (x3 * 256 + x4).toNat)) rfl (fun v W W' hx ⟨A', c', h1, h2⟩ => ⟨A', c', h1, h2.mono (OnS.ext hx)⟩) (fun ρ W hE' hh => by
    simp [toldE, lk, Op.operands, Act.eval] at hh
    obtain ⟨h1, A', c', h2, h3⟩ := hh
    exact runs_val (v := .agg #[.int .u8 x0, .slice A' (x3 * 256 + x4).toNat c']) (w' := W) (by go_simp) (OnS.refl _ _) ⟨A', c', rfl, h3⟩) ?_
  refine ms_val (.slice A6 n6 c6) rfl (fun ρ W hE' hh => by simp [toldE, lk, Op.operands, Act.eval] at hh; go_simp) ?_
  refine ms_val (.int .i64 (x3 * 256 + x4)) rfl (fun ρ W hE' hh => by simp [toldE, lk, Op.operands, Act.eval] at hh; go_simp) ?_
  refine ms_val (.slice A8 n8 c8) rfl (fun ρ W hE' hh => by simp [toldE, lk, Op.operands, Act.eval] at hh; go_simp) ?_
  refine ms_any (fun v W => ∃ A' c', v = .slice A' n8 c' ∧ SR (fun k => w2.heap.size ≤ k) W tU8 A' n8 c' ((b.drop (2 + 2)).drop (x3 * 256 + x4).toNat)) rfl (fun v W W' hx ⟨A', c', h1, h2⟩ => ⟨A', c', h1, h2.mono (OnS.ext hx)⟩) (fun ρ W hE' hh => by
    simp [toldE, lk, Op.operands, Call.operands, Act.eval] at hh
    refine runs_call (f := 24) (args := #[.slice A8 n8 c8]) (by go_simp) ((clone8 W (H8.mono (OnS.ext (hE2.trans hE')))).mono ?_)
    rintro e W' ⟨A', c', rfl, hEE, hSR, -⟩
    exact ⟨_, rfl, hEE, A', c', rfl, hSR.weaken (by decide) (fun k _ hk => by have := hE'.size; omega)⟩) ?_
  intro W hE'
  simp only [FinE]
  rintro _ rfl _ rfl _ rfl _ rfl _ rfl _ rfl v85 - _ ⟨A', c', rfl, hR1⟩ _ rfl _ rfl _ rfl _ ⟨A'', c'', rfl, hR2⟩
  simp only [Act.put, List.setIfInBounds_toArray, List.set_cons_zero, List.set_cons_succ]
  have hB3 := hB2.to hE' trivial
  have hz3 := hB2.lt
  have hb30 := hB3.cell 0
  have hb31 := hB3.cell 1
  have hf30 := hB3.frozen 0
  have hf31 := hB3.frozen 1
  simp only [List.getElem?_cons_zero, List.getElem?_cons_succ] at hb30 hb31
  repeat' go_step
  have hO : ∀ (u v : Value), OnS (· ≠ w.heap.size) W ((W.setCell ⟨w.heap.size, 0, none⟩ u).setCell ⟨w.heap.size, 1, none⟩ v) := fun u v => (OnS.setCell W ⟨w.heap.size, 0, none⟩ u).trans (OnS.setCell _ ⟨w.heap.size, 1, none⟩ v)
  refine bodyPost_ret (res13 ((hB3.set 0 (.int .u8 x0)).set 1 (.slice A' (x3 * 256 + x4).toNat c')) _ rfl rfl rfl) rfl ⟨_, rfl, ?_, A', (x3 * 256 + x4).toNat, c', A'', n8, c'', rfl, ?_, ?_⟩
  · exact OnS.since (hE2.trans hE') (hO _ _) (fun i hi _ => by omega)
  · exact ((hR1.weaken (S' := fun k => w.heap.size < k) (by decide) (fun k _ hk => by omega)).mono ((hO _ _).weaken (fun k _ hk => by omega))).weaken (by decide) (fun k _ hk => by omega)
  · exact ((hR2.weaken (S' := fun k => w.heap.size < k) (by decide) (fun k _ hk => by omega)).mono ((hO _ _).weaken (fun k _ hk => by omega))).weaken (by decide) (fun k _ hk => by omega)
end Go.Proofs.Ytikekdifipacmaa
