import Derived.Test.YtikekdifipacmaaD1
import Derived.Test.YtikekdifipacmaaK5
import Derived.Lib.Hide
import Derived.Deep.QuietTactic
import Derived.BigQuiet
namespace Go.Proofs.Ytikekdifipacmaa
open Go.RowKit
theorem Try.size5 : (Try.prog.info? 5).map (·.size) = some 1 := by kernel_rfl

/-- What der.Read answers: a piece, what is left, an error. -/
def RdRes (lo : Nat) (w : World) (v : Value) (t : Int) (body rest : List Int) (e : Int) : Prop :=
  ∃ A1 n1 c1 A2 n2 c2, v = .tuple #[.agg #[.int .u8 t, .slice A1 n1 c1], .slice A2 n2 c2, .int .i64 e] ∧ SR (fun k => lo ≤ k) w tU8 A1 n1 c1 body ∧ SR (fun k => lo ≤ k) w tU8 A2 n2 c2 rest

theorem res13 {W : World} {b : Nat} {c0 c1 v3 v4 : Value} (h : Bx W b 28 [c0, c1]) (tmps : Array Value) (h2 : tmps.getD 2 undef = .pointer (some ⟨b, 0, none⟩)) (h3 : tmps.getD 3 undef = v3) (h4 : tmps.getD 4 undef = v4) :
    (results Try.f13 tmps).run Try.prog W = .ok (.tuple #[.agg #[c0, c1], v3, v4]) W := by
  have h0 := h.cell 0
  have h1 := h.cell 1
  simp only [List.getElem?_cons_zero, List.getElem?_cons_succ] at h0 h1
  simp [results, Try.results13, go_sem, h0, h1] at h2 h3 h4 ⊢
  simp [h2, h3, h4, go_sem, h0, h1]

theorem bad_ret {w W : World} {v0 v1 : Value} {e : Int} {a : Act} (hE : Ext w W) (hB : Bx W w.heap.size 28 [v0, v1]) (h2 : a.tmps.getD 2 undef = .pointer (some ⟨w.heap.size, 0, none⟩)) (h3 : a.tmps.getD 3 undef = .slice none 0 0) (h4 : a.tmps.getD 4 undef = .int .i64 e) (hd : a.defers = []) :
    bodyPost Try.prog Try.f13 (fun x w' => ∃ v, x = .returned v ∧ Ext w w' ∧ RdRes w.heap.size w' v 0 [] [] e) .ret a ((W.setCell ⟨w.heap.size, 0, none⟩ (.int .u8 0)).setCell ⟨w.heap.size, 1, none⟩ (.slice none 0 0)) := by
  have hB' := (hB.set 0 (.int .u8 0)).set 1 (.slice none 0 0)
  refine bodyPost_ret (res13 hB' a.tmps h2 h3 h4) hd ⟨_, rfl, ?_, none, 0, 0, none, 0, 0, rfl, SR.nils _ _ _, SR.nils _ _ _⟩
  exact OnS.since (OnS.since hE (OnS.setCell W _ _) (fun i hi _ => by simp; omega)) (OnS.setCell _ _ _) (fun i hi _ => by simp; omega)

set_option maxHeartbeats 1000000 in
theorem read_e1 {S : Nat → Prop} {A : Option Addr} {n c : Nat} {b : List Int} (w : World) (H : SR S w tU8 A n c b) (h4 : 4096 < n) :
    Calls Try.prog 13 #[.slice A n c] w fun x w' => ∃ v, x = .returned v ∧ Ext w w' ∧ RdRes w.heap.size w' v 0 [] [] 3 := by
  have hl := H.len
  have hs := H.small
  go_enter Try.func13, Try.ntmps13
  iterate 6 go_step
  generalize hw1 : World.alloc w _ = w1
  have hB : Bx w1 w.heap.size 28 [.int .u8 0, .slice none 0 0] := hw1 ▸ Bx.new w [.int .u8 0, .slice none 0 0] 28
  have hE : Ext w w1 := hw1 ▸ OnS.alloc w _
  have hb0 := hB.cell 0
  have hb1 := hB.cell 1
  have hf0 := hB.frozen 0
  have hf1 := hB.frozen 1
  simp only [List.getElem?_cons_zero, List.getElem?_cons_succ] at hb0 hb1
  clear hw1
  repeat' go_step
  exact bad_ret hE hB rfl rfl rfl rfl

set_option maxHeartbeats 1000000 in
theorem read_e2 {S : Nat → Prop} {A : Option Addr} {n c : Nat} {b : List Int} (w : World) (H : SR S w tU8 A n c b) (h2 : n < 2) :
    Calls Try.prog 13 #[.slice A n c] w fun x w' => ∃ v, x = .returned v ∧ Ext w w' ∧ RdRes w.heap.size w' v 0 [] [] 30 := by
  have hl := H.len
  have hs := H.small
  go_enter Try.func13, Try.ntmps13
  iterate 6 go_step
  generalize hw1 : World.alloc w _ = w1
  have hB : Bx w1 w.heap.size 28 [.int .u8 0, .slice none 0 0] := hw1 ▸ Bx.new w [.int .u8 0, .slice none 0 0] 28
  have hE : Ext w w1 := hw1 ▸ OnS.alloc w _
  have hb0 := hB.cell 0
  have hb1 := hB.cell 1
  have hf0 := hB.frozen 0
  have hf1 := hB.frozen 1
  simp only [List.getElem?_cons_zero, List.getElem?_cons_succ] at hb0 hb1
  clear hw1
  repeat' go_step
  exact bad_ret hE hB rfl rfl rfl rfl

set_option maxHeartbeats 1000000 in
theorem read_e3 {S : Nat → Prop} {A : Option Addr} {n c : Nat} {b : List Int} (w : World) (H : SR S w tU8 A n c b) (h2 : 2 ≤ n) (h4 : n ≤ 4096) (ht : b.getD 0 0 % 32 = 31) :
    Calls Try.prog 13 #[.slice A n c] w fun x w' => ∃ v, x = .returned v ∧ Ext w w' ∧ RdRes w.heap.size w' v 0 [] [] 30 := by
  have hl := H.len
  have hs := H.small
  obtain ⟨ad0, x0, e0, hi0, hc0, hs0, hr0, hr0'⟩ := H.idx8 Try.underlying25 Try.size5 .i64 0 0 rfl (by omega)
  obtain ⟨ad1, x1, e1, hi1, hc1, hs1, hr1, hr1'⟩ := H.idx8 Try.underlying25 Try.size5 .i64 1 1 rfl (by omega)
  obtain ⟨A2, n2, c2, hcut, H2, hn2, hn2'⟩ := H.cutL Try.underlying25 Try.size5 .i64 2 2 rfl (by omega)
  rw [e0] at ht
  have ht' : (x0 % 32 == 31) = true := by simpa using ht
  clear e0 e1 ht
  go_enter Try.func13, Try.ntmps13
  iterate 6 go_step
  generalize hw1 : World.alloc w _ = w1
  have hB : Bx w1 w.heap.size 28 [.int .u8 0, .slice none 0 0] := hw1 ▸ Bx.new w [.int .u8 0, .slice none 0 0] 28
  have hE : Ext w w1 := hw1 ▸ OnS.alloc w _
  have hb0 := hB.cell 0
  have hb1 := hB.cell 1
  have hf0 := hB.frozen 0
  have hf1 := hB.frozen 1
  simp only [List.getElem?_cons_zero, List.getElem?_cons_succ] at hb0 hb1
  clear hw1
  have hk0 := hE.cell hc0 trivial
  have hk1 := hE.cell hc1 trivial
  repeat' go_step
  exact bad_ret hE hB rfl rfl rfl rfl

set_option maxHeartbeats 1000000 in
theorem read_e4 {S : Nat → Prop} {A : Option Addr} {n c : Nat} {b : List Int} (w : World) (H : SR S w tU8 A n c b) (h2 : 2 ≤ n) (h4 : n ≤ 4096) (ht : b.getD 0 0 % 32 ≠ 31) (hx : b.getD 1 0 < 128 ∧ (n : Int) < b.getD 1 0 + 2) :
    Calls Try.prog 13 #[.slice A n c] w fun x w' => ∃ v, x = .returned v ∧ Ext w w' ∧ RdRes w.heap.size w' v 0 [] [] 30 := by
  have hl := H.len
  have hs := H.small
  obtain ⟨ad0, x0, e0, hi0, hc0, hs0, hr0, hr0'⟩ := H.idx8 Try.underlying25 Try.size5 .i64 0 0 rfl (by omega)
  obtain ⟨ad1, x1, e1, hi1, hc1, hs1, hr1, hr1'⟩ := H.idx8 Try.underlying25 Try.size5 .i64 1 1 rfl (by omega)
  obtain ⟨A2, n2, c2, hcut, H2, hn2, hn2'⟩ := H.cutL Try.underlying25 Try.size5 .i64 2 2 rfl (by omega)
  rw [e0] at ht; rw [e1] at hx
  have ht' : (x0 % 32 == 31) = false := by simpa using ht
  clear e0 e1
  obtain ⟨hxa, hxb⟩ := hx
  go_enter Try.func13, Try.ntmps13
  iterate 6 go_step
  generalize hw1 : World.alloc w _ = w1
  have hB : Bx w1 w.heap.size 28 [.int .u8 0, .slice none 0 0] := hw1 ▸ Bx.new w [.int .u8 0, .slice none 0 0] 28
  have hE : Ext w w1 := hw1 ▸ OnS.alloc w _
  have hb0 := hB.cell 0
  have hb1 := hB.cell 1
  have hf0 := hB.frozen 0
  have hf1 := hB.frozen 1
  simp only [List.getElem?_cons_zero, List.getElem?_cons_succ] at hb0 hb1
  clear hw1
  have hk0 := hE.cell hc0 trivial
  have hk1 := hE.cell hc1 trivial
  repeat' go_step
  go_quiet (fail)
  repeat' go_step
  generalize hw2 : World.drewN w1 _ = w2
  have hE2 : Ext w w2 := hE.trans (hw2 ▸ OnS.drewN w1 _)
  have hB2 : Bx w2 w.heap.size 28 [.int .u8 0, .slice none 0 0] := hB.to (hw2 ▸ OnS.drewN w1 _) trivial
  clear hw2
  exact bad_ret hE2 hB2 rfl rfl rfl rfl

set_option maxHeartbeats 1000000 in
theorem read_e5 {S : Nat → Prop} {A : Option Addr} {n c : Nat} {b : List Int} (w : World) (H : SR S w tU8 A n c b) (h2 : 2 ≤ n) (h4 : n ≤ 4096) (ht : b.getD 0 0 % 32 ≠ 31) (hx : b.getD 1 0 = 128) :
    Calls Try.prog 13 #[.slice A n c] w fun x w' => ∃ v, x = .returned v ∧ Ext w w' ∧ RdRes w.heap.size w' v 0 [] [] 30 := by
  have hl := H.len
  have hs := H.small
  obtain ⟨ad0, x0, e0, hi0, hc0, hs0, hr0, hr0'⟩ := H.idx8 Try.underlying25 Try.size5 .i64 0 0 rfl (by omega)
  obtain ⟨ad1, x1, e1, hi1, hc1, hs1, hr1, hr1'⟩ := H.idx8 Try.underlying25 Try.size5 .i64 1 1 rfl (by omega)
  obtain ⟨A2, n2, c2, hcut, H2, hn2, hn2'⟩ := H.cutL Try.underlying25 Try.size5 .i64 2 2 rfl (by omega)
  rw [e0] at ht; rw [e1] at hx
  have ht' : (x0 % 32 == 31) = false := by simpa using ht
  clear e0 e1
  have hxa : 128 ≤ x1 := by omega
  have hxb : x1 ≤ 128 := by omega
  clear hx
  go_enter Try.func13, Try.ntmps13
  iterate 6 go_step
  generalize hw1 : World.alloc w _ = w1
  have hB : Bx w1 w.heap.size 28 [.int .u8 0, .slice none 0 0] := hw1 ▸ Bx.new w [.int .u8 0, .slice none 0 0] 28
  have hE : Ext w w1 := hw1 ▸ OnS.alloc w _
  have hb0 := hB.cell 0
  have hb1 := hB.cell 1
  have hf0 := hB.frozen 0
  have hf1 := hB.frozen 1
  simp only [List.getElem?_cons_zero, List.getElem?_cons_succ] at hb0 hb1
  clear hw1
  have hk0 := hE.cell hc0 trivial
  have hk1 := hE.cell hc1 trivial
  repeat' go_step
  go_quiet (fail)
  repeat' go_step
  generalize hw2 : World.drewN w1 _ = w2
  have hE2 : Ext w w2 := hE.trans (hw2 ▸ OnS.drewN w1 _)
  have hB2 : Bx w2 w.heap.size 28 [.int .u8 0, .slice none 0 0] := hB.to (hw2 ▸ OnS.drewN w1 _) trivial
  clear hw2
  exact bad_ret hE2 hB2 rfl rfl rfl rfl

set_option maxHeartbeats 1000000 in
theorem read_e6 {S : Nat → Prop} {A : Option Addr} {n c : Nat} {b : List Int} (w : World) (H : SR S w tU8 A n c b) (h2 : 2 ≤ n) (h4 : n ≤ 4096) (ht : b.getD 0 0 % 32 ≠ 31) (hx : 130 < b.getD 1 0) :
    Calls Try.prog 13 #[.slice A n c] w fun x w' => ∃ v, x = .returned v ∧ Ext w w' ∧ RdRes w.heap.size w' v 0 [] [] 30 := by
  have hl := H.len
  have hs := H.small
  obtain ⟨ad0, x0, e0, hi0, hc0, hs0, hr0, hr0'⟩ := H.idx8 Try.underlying25 Try.size5 .i64 0 0 rfl (by omega)
  obtain ⟨ad1, x1, e1, hi1, hc1, hs1, hr1, hr1'⟩ := H.idx8 Try.underlying25 Try.size5 .i64 1 1 rfl (by omega)
  obtain ⟨A2, n2, c2, hcut, H2, hn2, hn2'⟩ := H.cutL Try.underlying25 Try.size5 .i64 2 2 rfl (by omega)
  rw [e0] at ht; rw [e1] at hx
  have ht' : (x0 % 32 == 31) = false := by simpa using ht
  clear e0 e1
  go_enter Try.func13, Try.ntmps13
  iterate 6 go_step
  generalize hw1 : World.alloc w _ = w1
  have hB : Bx w1 w.heap.size 28 [.int .u8 0, .slice none 0 0] := hw1 ▸ Bx.new w [.int .u8 0, .slice none 0 0] 28
  have hE : Ext w w1 := hw1 ▸ OnS.alloc w _
  have hb0 := hB.cell 0
  have hb1 := hB.cell 1
  have hf0 := hB.frozen 0
  have hf1 := hB.frozen 1
  simp only [List.getElem?_cons_zero, List.getElem?_cons_succ] at hb0 hb1
  clear hw1
  have hk0 := hE.cell hc0 trivial
  have hk1 := hE.cell hc1 trivial
  repeat' go_step
  go_quiet (fail)
  repeat' go_step
  generalize hw2 : World.drewN w1 _ = w2
  have hE2 : Ext w w2 := hE.trans (hw2 ▸ OnS.drewN w1 _)
  have hB2 : Bx w2 w.heap.size 28 [.int .u8 0, .slice none 0 0] := hB.to (hw2 ▸ OnS.drewN w1 _) trivial
  clear hw2
  exact bad_ret hE2 hB2 rfl rfl rfl rfl

set_option maxHeartbeats 1000000 in
theorem read_e7 {S : Nat → Prop} {A : Option Addr} {n c : Nat} {b : List Int} (w : World) (H : SR S w tU8 A n c b) (h2 : 2 ≤ n) (h4 : n ≤ 4096) (ht : b.getD 0 0 % 32 ≠ 31) (hx : 129 ≤ b.getD 1 0 ∧ b.getD 1 0 ≤ 130 ∧ (n : Int) < b.getD 1 0 - 126) :
    Calls Try.prog 13 #[.slice A n c] w fun x w' => ∃ v, x = .returned v ∧ Ext w w' ∧ RdRes w.heap.size w' v 0 [] [] 30 := by
  have hl := H.len
  have hs := H.small
  obtain ⟨ad0, x0, e0, hi0, hc0, hs0, hr0, hr0'⟩ := H.idx8 Try.underlying25 Try.size5 .i64 0 0 rfl (by omega)
  obtain ⟨ad1, x1, e1, hi1, hc1, hs1, hr1, hr1'⟩ := H.idx8 Try.underlying25 Try.size5 .i64 1 1 rfl (by omega)
  obtain ⟨A2, n2, c2, hcut, H2, hn2, hn2'⟩ := H.cutL Try.underlying25 Try.size5 .i64 2 2 rfl (by omega)
  rw [e0] at ht; rw [e1] at hx
  have ht' : (x0 % 32 == 31) = false := by simpa using ht
  clear e0 e1
  obtain ⟨hxa, hxb, hxc⟩ := hx
  have hxd : (n2 : Int) < x1 - 128 := by omega
  go_enter Try.func13, Try.ntmps13
  iterate 6 go_step
  generalize hw1 : World.alloc w _ = w1
  have hB : Bx w1 w.heap.size 28 [.int .u8 0, .slice none 0 0] := hw1 ▸ Bx.new w [.int .u8 0, .slice none 0 0] 28
  have hE : Ext w w1 := hw1 ▸ OnS.alloc w _
  have hb0 := hB.cell 0
  have hb1 := hB.cell 1
  have hf0 := hB.frozen 0
  have hf1 := hB.frozen 1
  simp only [List.getElem?_cons_zero, List.getElem?_cons_succ] at hb0 hb1
  clear hw1
  have hk0 := hE.cell hc0 trivial
  have hk1 := hE.cell hc1 trivial
  repeat' go_step
  go_quiet (fail)
  repeat' go_step
  generalize hw2 : World.drewN w1 _ = w2
  have hE2 : Ext w w2 := hE.trans (hw2 ▸ OnS.drewN w1 _)
  have hB2 : Bx w2 w.heap.size 28 [.int .u8 0, .slice none 0 0] := hB.to (hw2 ▸ OnS.drewN w1 _) trivial
  clear hw2
  exact bad_ret hE2 hB2 rfl rfl rfl rfl

set_option maxHeartbeats 1000000 in
theorem read_e8 {S : Nat → Prop} {A : Option Addr} {n c : Nat} {b : List Int} (w : World) (H : SR S w tU8 A n c b) (h2 : 2 ≤ n) (h4 : n ≤ 4096) (ht : b.getD 0 0 % 32 ≠ 31) (hx : 129 ≤ b.getD 1 0 ∧ b.getD 1 0 ≤ 130 ∧ b.getD 1 0 - 126 ≤ (n : Int)) (hy : b.getD 2 0 = 0) :
    Calls Try.prog 13 #[.slice A n c] w fun x w' => ∃ v, x = .returned v ∧ Ext w w' ∧ RdRes w.heap.size w' v 0 [] [] 30 := by
  have hl := H.len
  have hs := H.small
  obtain ⟨ad0, x0, e0, hi0, hc0, hs0, hr0, hr0'⟩ := H.idx8 Try.underlying25 Try.size5 .i64 0 0 rfl (by omega)
  obtain ⟨ad1, x1, e1, hi1, hc1, hs1, hr1, hr1'⟩ := H.idx8 Try.underlying25 Try.size5 .i64 1 1 rfl (by omega)
  obtain ⟨A2, n2, c2, hcut, H2, hn2, hn2'⟩ := H.cutL Try.underlying25 Try.size5 .i64 2 2 rfl (by omega)
  rw [e0] at ht; rw [e1] at hx
  have ht' : (x0 % 32 == 31) = false := by simpa using ht
  clear e0 e1
  obtain ⟨hxa, hxb, hxc⟩ := hx
  have hxd : x1 - 128 ≤ (n2 : Int) := by omega
  obtain ⟨ad2, x2, e2, hi2, hc2, hs2, hr2, hr2'⟩ := H2.idx8 Try.underlying25 Try.size5 .i64 0 0 rfl (by omega)
  have e2' : b.getD 2 0 = x2 := by rw [← e2]; simp [List.getD_eq_getElem?_getD, List.getElem?_drop]
  clear e2
  rw [e2'] at hy
  have hy' : (x2 == 0) = true := by simpa using hy
  clear e2' hy
  go_enter Try.func13, Try.ntmps13
  iterate 6 go_step
  generalize hw1 : World.alloc w _ = w1
  have hB : Bx w1 w.heap.size 28 [.int .u8 0, .slice none 0 0] := hw1 ▸ Bx.new w [.int .u8 0, .slice none 0 0] 28
  have hE : Ext w w1 := hw1 ▸ OnS.alloc w _
  have hb0 := hB.cell 0
  have hb1 := hB.cell 1
  have hf0 := hB.frozen 0
  have hf1 := hB.frozen 1
  simp only [List.getElem?_cons_zero, List.getElem?_cons_succ] at hb0 hb1
  clear hw1
  have hk0 := hE.cell hc0 trivial
  have hk1 := hE.cell hc1 trivial
  have hk2 := hE.cell hc2 trivial
  repeat' go_step
  go_quiet (fail)
  repeat' go_step
  generalize hw2 : World.drewN w1 _ = w2
  have hE2 : Ext w w2 := hE.trans (hw2 ▸ OnS.drewN w1 _)
  have hB2 : Bx w2 w.heap.size 28 [.int .u8 0, .slice none 0 0] := hB.to (hw2 ▸ OnS.drewN w1 _) trivial
  clear hw2
  exact bad_ret hE2 hB2 rfl rfl rfl rfl
end Go.Proofs.Ytikekdifipacmaa
