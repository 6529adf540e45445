import Derived.Test.YtikekdifipacmaaD8
import Derived.IntWalk
import Derived.BigRegion
namespace Go.Proofs.Ytikekdifipacmaa
open Go.RowKit

/-- What latchkeyref10.Read answers: a piece, what is left, an error's number. -/
def RfRes (S : Nat → Prop) (w : World) (v : Value) (t : Int) (body rest : List Int) (e : Int) : Prop :=
  ∃ A1 n1 c1 A2 n2 c2, v = .tuple #[.agg #[.int .u8 t, .slice A1 n1 c1], .slice A2 n2 c2, .int .i64 e] ∧ SR S w tU8 A1 n1 c1 body ∧ SR S w tU8 A2 n2 c2 rest

theorem res11 {W : World} {b : Nat} {c0 c1 v3 v4 : Value} (h : Bx W b 28 [c0, c1]) (tmps : Array Value) (h2 : tmps.getD 2 undef = .pointer (some ⟨b, 0, none⟩)) (h3 : tmps.getD 3 undef = v3) (h4 : tmps.getD 4 undef = v4) :
    (results Try.f11 tmps).run Try.prog W = .ok (.tuple #[.agg #[c0, c1], v3, v4]) W := by
  have h0 := h.cell 0
  have h1 := h.cell 1
  simp only [List.getElem?_cons_zero, List.getElem?_cons_succ] at h0 h1
  simp [results, Try.results11, go_sem] at h2 h3 h4 ⊢
  simp [h2, h3, h4, go_sem, h0, h1]

theorem bad_ret11 {S : Nat → Prop} {w W : World} {v0 v1 : Value} {e : Int} {a : Act} (hE : Ext w W) (hB : Bx W w.heap.size 28 [v0, v1]) (h2 : a.tmps.getD 2 undef = .pointer (some ⟨w.heap.size, 0, none⟩)) (h3 : a.tmps.getD 3 undef = .slice none 0 0) (h4 : a.tmps.getD 4 undef = .int .i64 e) (hd : a.defers = []) :
    bodyPost Try.prog Try.f11 (fun x w' => ∃ v, x = .returned v ∧ Ext w w' ∧ RfRes S w' v 0 [] [] e) .ret a ((W.setCell ⟨w.heap.size, 0, none⟩ (.int .u8 0)).setCell ⟨w.heap.size, 1, none⟩ (.slice none 0 0)) := by
  have hB' := (hB.set 0 (.int .u8 0)).set 1 (.slice none 0 0)
  refine bodyPost_ret (res11 hB' a.tmps h2 h3 h4) hd ⟨_, rfl, ?_, none, 0, 0, none, 0, 0, rfl, SR.nils _ _ _, SR.nils _ _ _⟩
  exact OnS.since (OnS.since hE (OnS.setCell W _ _) (fun i hi _ => by simp; omega)) (OnS.setCell _ _ _) (fun i hi _ => by simp; omega)

set_option maxHeartbeats 1000000 in
theorem rf_e1 {S : Nat → Prop} {A : Option Addr} {n c : Nat} {b : List Int} (w : World) (H : SR S w tU8 A n c b) (h4 : 4096 < n) (_ : ¬ S w.heap.size) :
    Calls Try.prog 11 #[.slice A n c] w fun x w' => ∃ v, x = .returned v ∧ Ext w w' ∧ RfRes S w' v 0 [] [] 3 := by
  have hl := H.len
  have hs := H.small
  go_enter Try.func11, Try.ntmps11
  iterate 6 go_step
  generalize hw1 : World.alloc w _ = w1
  have hB : Bx w1 w.heap.size 28 [.int .u8 0, .slice none 0 0] := hw1 ▸ Bx.new w [.int .u8 0, .slice none 0 0] 28
  have hE : Ext w w1 := hw1 ▸ OnS.alloc w _
  have hb0 := hB.cell 0
  have hb1 := hB.cell 1
  have hf0 := hB.frozen 0
  have hf1 := hB.frozen 1
  simp only [List.getElem?_cons_zero, List.getElem?_cons_succ] at hb0 hb1
  clear hw1
  repeat' go_step
  exact bad_ret11 hE hB rfl rfl rfl rfl

set_option maxHeartbeats 1000000 in
theorem rf_e2 {S : Nat → Prop} {A : Option Addr} {n c : Nat} {b : List Int} (w : World) (H : SR S w tU8 A n c b) (h2 : n < 2) (_ : ¬ S w.heap.size) :
    Calls Try.prog 11 #[.slice A n c] w fun x w' => ∃ v, x = .returned v ∧ Ext w w' ∧ RfRes S w' v 0 [] [] 30 := by
  have hl := H.len
  have hs := H.small
  go_enter Try.func11, Try.ntmps11
  iterate 6 go_step
  generalize hw1 : World.alloc w _ = w1
  have hB : Bx w1 w.heap.size 28 [.int .u8 0, .slice none 0 0] := hw1 ▸ Bx.new w [.int .u8 0, .slice none 0 0] 28
  have hE : Ext w w1 := hw1 ▸ OnS.alloc w _
  have hb0 := hB.cell 0
  have hb1 := hB.cell 1
  have hf0 := hB.frozen 0
  have hf1 := hB.frozen 1
  simp only [List.getElem?_cons_zero, List.getElem?_cons_succ] at hb0 hb1
  clear hw1
  repeat' go_step
  exact bad_ret11 hE hB rfl rfl rfl rfl

set_option maxHeartbeats 1000000 in
theorem rf_e3 {S : Nat → Prop} {A : Option Addr} {n c : Nat} {b : List Int} (w : World) (H : SR S w tU8 A n c b) (h2 : 2 ≤ n) (h4 : n ≤ 4096) (ht : b.getD 0 0 % 32 = 31) (_ : ¬ S w.heap.size) :
    Calls Try.prog 11 #[.slice A n c] w fun x w' => ∃ v, x = .returned v ∧ Ext w w' ∧ RfRes S w' v 0 [] [] 30 := by
  have hl := H.len
  have hs := H.small
  obtain ⟨ad0, x0, e0, hi0, hc0, hs0, hr0, hr0'⟩ := H.idx8 Try.underlying25 Try.size5 .i64 0 0 rfl (by omega)
  obtain ⟨ad1, x1, e1, hi1, hc1, hs1, hr1, hr1'⟩ := H.idx8 Try.underlying25 Try.size5 .i64 1 1 rfl (by omega)
  rw [e0] at ht
  have ht' : (x0 % 32 == 31) = true := by simpa using ht
  clear e0 e1 ht
  go_enter Try.func11, Try.ntmps11
  iterate 6 go_step
  generalize hw1 : World.alloc w _ = w1
  have hB : Bx w1 w.heap.size 28 [.int .u8 0, .slice none 0 0] := hw1 ▸ Bx.new w [.int .u8 0, .slice none 0 0] 28
  have hE : Ext w w1 := hw1 ▸ OnS.alloc w _
  have hb0 := hB.cell 0
  have hb1 := hB.cell 1
  have hf0 := hB.frozen 0
  have hf1 := hB.frozen 1
  simp only [List.getElem?_cons_zero, List.getElem?_cons_succ] at hb0 hb1
  clear hw1
  have hk0 := hE.cell hc0 trivial
  have hk1 := hE.cell hc1 trivial
  repeat' go_step
  exact bad_ret11 hE hB rfl rfl rfl rfl

set_option maxHeartbeats 1000000 in
theorem rf_e4 {S : Nat → Prop} {A : Option Addr} {n c : Nat} {b : List Int} (w : World) (H : SR S w tU8 A n c b) (h2 : 2 ≤ n) (h4 : n ≤ 4096) (ht : b.getD 0 0 % 32 ≠ 31) (hx : b.getD 1 0 < 128 ∧ (n : Int) < b.getD 1 0 + 2) (_ : ¬ S w.heap.size) :
    Calls Try.prog 11 #[.slice A n c] w fun x w' => ∃ v, x = .returned v ∧ Ext w w' ∧ RfRes S w' v 0 [] [] 30 := by
  have hl := H.len
  have hs := H.small
  obtain ⟨ad0, x0, e0, hi0, hc0, hs0, hr0, hr0'⟩ := H.idx8 Try.underlying25 Try.size5 .i64 0 0 rfl (by omega)
  obtain ⟨ad1, x1, e1, hi1, hc1, hs1, hr1, hr1'⟩ := H.idx8 Try.underlying25 Try.size5 .i64 1 1 rfl (by omega)
  rw [e0] at ht; rw [e1] at hx
  have ht' : (x0 % 32 == 31) = false := by simpa using ht
  have E0 := Lib.hid e0
  have E1 := Lib.hid e1
  clear e0 e1
  obtain ⟨hxa, hxb⟩ := hx
  go_enter Try.func11, Try.ntmps11
  iterate 6 go_step
  generalize hw1 : World.alloc w _ = w1
  have hB : Bx w1 w.heap.size 28 [.int .u8 0, .slice none 0 0] := hw1 ▸ Bx.new w [.int .u8 0, .slice none 0 0] 28
  have hE : Ext w w1 := hw1 ▸ OnS.alloc w _
  have hb0 := hB.cell 0
  have hb1 := hB.cell 1
  have hf0 := hB.frozen 0
  have hf1 := hB.frozen 1
  simp only [List.getElem?_cons_zero, List.getElem?_cons_succ] at hb0 hb1
  clear hw1
  have hk0 := hE.cell hc0 trivial
  have hk1 := hE.cell hc1 trivial
  repeat' go_step
  exact bad_ret11 hE hB rfl rfl rfl rfl

set_option maxHeartbeats 1000000 in
theorem rf_e5 {S : Nat → Prop} {A : Option Addr} {n c : Nat} {b : List Int} (w : World) (H : SR S w tU8 A n c b) (h2 : 2 ≤ n) (h4 : n ≤ 4096) (ht : b.getD 0 0 % 32 ≠ 31) (hx : b.getD 1 0 = 128 ∨ 130 < b.getD 1 0) (_ : ¬ S w.heap.size) :
    Calls Try.prog 11 #[.slice A n c] w fun x w' => ∃ v, x = .returned v ∧ Ext w w' ∧ RfRes S w' v 0 [] [] 30 := by
  have hl := H.len
  have hs := H.small
  obtain ⟨ad0, x0, e0, hi0, hc0, hs0, hr0, hr0'⟩ := H.idx8 Try.underlying25 Try.size5 .i64 0 0 rfl (by omega)
  obtain ⟨ad1, x1, e1, hi1, hc1, hs1, hr1, hr1'⟩ := H.idx8 Try.underlying25 Try.size5 .i64 1 1 rfl (by omega)
  rw [e0] at ht; rw [e1] at hx
  have ht' : (x0 % 32 == 31) = false := by simpa using ht
  have E0 := Lib.hid e0
  have E1 := Lib.hid e1
  clear e0 e1
  have hxc : (x1 != 129) = true := by rw [bne_iff_ne]; omega
  have hxd : (x1 != 130) = true := by rw [bne_iff_ne]; omega
  have hxe : 128 ≤ x1 := by omega
  clear hx
  go_enter Try.func11, Try.ntmps11
  iterate 6 go_step
  generalize hw1 : World.alloc w _ = w1
  have hB : Bx w1 w.heap.size 28 [.int .u8 0, .slice none 0 0] := hw1 ▸ Bx.new w [.int .u8 0, .slice none 0 0] 28
  have hE : Ext w w1 := hw1 ▸ OnS.alloc w _
  have hb0 := hB.cell 0
  have hb1 := hB.cell 1
  have hf0 := hB.frozen 0
  have hf1 := hB.frozen 1
  simp only [List.getElem?_cons_zero, List.getElem?_cons_succ] at hb0 hb1
  clear hw1
  have hk0 := hE.cell hc0 trivial
  have hk1 := hE.cell hc1 trivial
  repeat' go_step
  exact bad_ret11 hE hB rfl rfl rfl rfl

set_option maxHeartbeats 1000000 in
theorem rf_e7 {S : Nat → Prop} {A : Option Addr} {n c : Nat} {b : List Int} (w : World) (H : SR S w tU8 A n c b) (h2 : 2 ≤ n) (h4 : n ≤ 4096) (ht : b.getD 0 0 % 32 ≠ 31) (hx : b.getD 1 0 = 129) (hy : n < 3) (_ : ¬ S w.heap.size) :
    Calls Try.prog 11 #[.slice A n c] w fun x w' => ∃ v, x = .returned v ∧ Ext w w' ∧ RfRes S w' v 0 [] [] 30 := by
  have hl := H.len
  have hs := H.small
  obtain ⟨ad0, x0, e0, hi0, hc0, hs0, hr0, hr0'⟩ := H.idx8 Try.underlying25 Try.size5 .i64 0 0 rfl (by omega)
  obtain ⟨ad1, x1, e1, hi1, hc1, hs1, hr1, hr1'⟩ := H.idx8 Try.underlying25 Try.size5 .i64 1 1 rfl (by omega)
  rw [e0] at ht; rw [e1] at hx
  have ht' : (x0 % 32 == 31) = false := by simpa using ht
  have E0 := Lib.hid e0
  have E1 := Lib.hid e1
  clear e0 e1
  subst hx
  go_enter Try.func11, Try.ntmps11
  iterate 6 go_step
  generalize hw1 : World.alloc w _ = w1
  have hB : Bx w1 w.heap.size 28 [.int .u8 0, .slice none 0 0] := hw1 ▸ Bx.new w [.int .u8 0, .slice none 0 0] 28
  have hE : Ext w w1 := hw1 ▸ OnS.alloc w _
  have hb0 := hB.cell 0
  have hb1 := hB.cell 1
  have hf0 := hB.frozen 0
  have hf1 := hB.frozen 1
  simp only [List.getElem?_cons_zero, List.getElem?_cons_succ] at hb0 hb1
  clear hw1
  have hk0 := hE.cell hc0 trivial
  have hk1 := hE.cell hc1 trivial
  repeat' go_step
  exact bad_ret11 hE hB rfl rfl rfl rfl

set_option maxHeartbeats 1000000 in
theorem rf_e8 {S : Nat → Prop} {A : Option Addr} {n c : Nat} {b : List Int} (w : World) (H : SR S w tU8 A n c b) (h2 : 2 ≤ n) (h4 : n ≤ 4096) (ht : b.getD 0 0 % 32 ≠ 31) (hx : b.getD 1 0 = 130) (hy : n < 4) (_ : ¬ S w.heap.size) :
    Calls Try.prog 11 #[.slice A n c] w fun x w' => ∃ v, x = .returned v ∧ Ext w w' ∧ RfRes S w' v 0 [] [] 30 := by
  have hl := H.len
  have hs := H.small
  obtain ⟨ad0, x0, e0, hi0, hc0, hs0, hr0, hr0'⟩ := H.idx8 Try.underlying25 Try.size5 .i64 0 0 rfl (by omega)
  obtain ⟨ad1, x1, e1, hi1, hc1, hs1, hr1, hr1'⟩ := H.idx8 Try.underlying25 Try.size5 .i64 1 1 rfl (by omega)
  rw [e0] at ht; rw [e1] at hx
  have ht' : (x0 % 32 == 31) = false := by simpa using ht
  have E0 := Lib.hid e0
  have E1 := Lib.hid e1
  clear e0 e1
  subst hx
  go_enter Try.func11, Try.ntmps11
  iterate 6 go_step
  generalize hw1 : World.alloc w _ = w1
  have hB : Bx w1 w.heap.size 28 [.int .u8 0, .slice none 0 0] := hw1 ▸ Bx.new w [.int .u8 0, .slice none 0 0] 28
  have hE : Ext w w1 := hw1 ▸ OnS.alloc w _
  have hb0 := hB.cell 0
  have hb1 := hB.cell 1
  have hf0 := hB.frozen 0
  have hf1 := hB.frozen 1
  simp only [List.getElem?_cons_zero, List.getElem?_cons_succ] at hb0 hb1
  clear hw1
  have hk0 := hE.cell hc0 trivial
  have hk1 := hE.cell hc1 trivial
  repeat' go_step
  exact bad_ret11 hE hB rfl rfl rfl rfl

set_option maxHeartbeats 1000000 in
theorem rf_e9 {S : Nat → Prop} {A : Option Addr} {n c : Nat} {b : List Int} (w : World) (H : SR S w tU8 A n c b) (h2 : 2 ≤ n) (h4 : n ≤ 4096) (ht : b.getD 0 0 % 32 ≠ 31) (hx : b.getD 1 0 = 129) (hy : 3 ≤ n) (hz : b.getD 2 0 < 128) (_ : ¬ S w.heap.size) :
    Calls Try.prog 11 #[.slice A n c] w fun x w' => ∃ v, x = .returned v ∧ Ext w w' ∧ RfRes S w' v 0 [] [] 30 := by
  have hl := H.len
  have hs := H.small
  obtain ⟨ad0, x0, e0, hi0, hc0, hs0, hr0, hr0'⟩ := H.idx8 Try.underlying25 Try.size5 .i64 0 0 rfl (by omega)
  obtain ⟨ad1, x1, e1, hi1, hc1, hs1, hr1, hr1'⟩ := H.idx8 Try.underlying25 Try.size5 .i64 1 1 rfl (by omega)
  rw [e0] at ht; rw [e1] at hx
  have ht' : (x0 % 32 == 31) = false := by simpa using ht
  have E0 := Lib.hid e0
  have E1 := Lib.hid e1
  clear e0 e1
  subst hx
  obtain ⟨ad2, x2, e2, hi2, hc2, hs2, hr2, hr2'⟩ := H.idx8 Try.underlying25 Try.size5 .i64 2 2 rfl (by omega)
  rw [e2] at hz
  have E2 := Lib.hid e2
  clear e2
  go_enter Try.func11, Try.ntmps11
  iterate 6 go_step
  generalize hw1 : World.alloc w _ = w1
  have hB : Bx w1 w.heap.size 28 [.int .u8 0, .slice none 0 0] := hw1 ▸ Bx.new w [.int .u8 0, .slice none 0 0] 28
  have hE : Ext w w1 := hw1 ▸ OnS.alloc w _
  have hb0 := hB.cell 0
  have hb1 := hB.cell 1
  have hf0 := hB.frozen 0
  have hf1 := hB.frozen 1
  simp only [List.getElem?_cons_zero, List.getElem?_cons_succ] at hb0 hb1
  clear hw1
  have hk0 := hE.cell hc0 trivial
  have hk1 := hE.cell hc1 trivial
  have hk2 := hE.cell hc2 trivial
  repeat' go_step
  exact bad_ret11 hE hB rfl rfl rfl rfl

set_option maxHeartbeats 1000000 in
theorem rf_e10 {S : Nat → Prop} {A : Option Addr} {n c : Nat} {b : List Int} (w : World) (H : SR S w tU8 A n c b) (h2 : 2 ≤ n) (h4 : n ≤ 4096) (ht : b.getD 0 0 % 32 ≠ 31) (hx : b.getD 1 0 = 129) (hy : 3 ≤ n) (hz : 128 ≤ b.getD 2 0 ∧ (n : Int) < b.getD 2 0 + 3) (_ : ¬ S w.heap.size) :
    Calls Try.prog 11 #[.slice A n c] w fun x w' => ∃ v, x = .returned v ∧ Ext w w' ∧ RfRes S w' v 0 [] [] 30 := by
  have hl := H.len
  have hs := H.small
  obtain ⟨ad0, x0, e0, hi0, hc0, hs0, hr0, hr0'⟩ := H.idx8 Try.underlying25 Try.size5 .i64 0 0 rfl (by omega)
  obtain ⟨ad1, x1, e1, hi1, hc1, hs1, hr1, hr1'⟩ := H.idx8 Try.underlying25 Try.size5 .i64 1 1 rfl (by omega)
  rw [e0] at ht; rw [e1] at hx
  have ht' : (x0 % 32 == 31) = false := by simpa using ht
  have E0 := Lib.hid e0
  have E1 := Lib.hid e1
  clear e0 e1
  subst hx
  obtain ⟨ad2, x2, e2, hi2, hc2, hs2, hr2, hr2'⟩ := H.idx8 Try.underlying25 Try.size5 .i64 2 2 rfl (by omega)
  rw [e2] at hz
  have E2 := Lib.hid e2
  clear e2
  obtain ⟨hz1, hz2⟩ := hz
  go_enter Try.func11, Try.ntmps11
  iterate 6 go_step
  generalize hw1 : World.alloc w _ = w1
  have hB : Bx w1 w.heap.size 28 [.int .u8 0, .slice none 0 0] := hw1 ▸ Bx.new w [.int .u8 0, .slice none 0 0] 28
  have hE : Ext w w1 := hw1 ▸ OnS.alloc w _
  have hb0 := hB.cell 0
  have hb1 := hB.cell 1
  have hf0 := hB.frozen 0
  have hf1 := hB.frozen 1
  simp only [List.getElem?_cons_zero, List.getElem?_cons_succ] at hb0 hb1
  clear hw1
  have hk0 := hE.cell hc0 trivial
  have hk1 := hE.cell hc1 trivial
  have hk2 := hE.cell hc2 trivial
  repeat' go_step
  exact bad_ret11 hE hB rfl rfl rfl rfl

set_option maxHeartbeats 1000000 in
theorem rf_e11 {S : Nat → Prop} {A : Option Addr} {n c : Nat} {b : List Int} (w : World) (H : SR S w tU8 A n c b) (h2 : 2 ≤ n) (h4 : n ≤ 4096) (ht : b.getD 0 0 % 32 ≠ 31) (hx : b.getD 1 0 = 130) (hy : 4 ≤ n) (hz : 256 * b.getD 2 0 + b.getD 3 0 < 256) (_ : ¬ S w.heap.size) :
    Calls Try.prog 11 #[.slice A n c] w fun x w' => ∃ v, x = .returned v ∧ Ext w w' ∧ RfRes S w' v 0 [] [] 30 := by
  have hl := H.len
  have hs := H.small
  obtain ⟨ad0, x0, e0, hi0, hc0, hs0, hr0, hr0'⟩ := H.idx8 Try.underlying25 Try.size5 .i64 0 0 rfl (by omega)
  obtain ⟨ad1, x1, e1, hi1, hc1, hs1, hr1, hr1'⟩ := H.idx8 Try.underlying25 Try.size5 .i64 1 1 rfl (by omega)
  rw [e0] at ht; rw [e1] at hx
  have ht' : (x0 % 32 == 31) = false := by simpa using ht
  have E0 := Lib.hid e0
  have E1 := Lib.hid e1
  clear e0 e1
  subst hx
  obtain ⟨ad2, x2, e2, hi2, hc2, hs2, hr2, hr2'⟩ := H.idx8 Try.underlying25 Try.size5 .i64 2 2 rfl (by omega)
  obtain ⟨ad3, x3, e3, hi3, hc3, hs3, hr3, hr3'⟩ := H.idx8 Try.underlying25 Try.size5 .i64 3 3 rfl (by omega)
  rw [e2, e3] at hz
  have E2 := Lib.hid e2
  have E3 := Lib.hid e3
  clear e2 e3
  have hm0 : 0 ≤ 256 * x2 + x3 := by omega
  have hm1 : 256 * x2 + x3 ≤ 65535 := by omega
  go_enter Try.func11, Try.ntmps11
  iterate 6 go_step
  generalize hw1 : World.alloc w _ = w1
  have hB : Bx w1 w.heap.size 28 [.int .u8 0, .slice none 0 0] := hw1 ▸ Bx.new w [.int .u8 0, .slice none 0 0] 28
  have hE : Ext w w1 := hw1 ▸ OnS.alloc w _
  have hb0 := hB.cell 0
  have hb1 := hB.cell 1
  have hf0 := hB.frozen 0
  have hf1 := hB.frozen 1
  simp only [List.getElem?_cons_zero, List.getElem?_cons_succ] at hb0 hb1
  clear hw1
  have hk0 := hE.cell hc0 trivial
  have hk1 := hE.cell hc1 trivial
  have hk2 := hE.cell hc2 trivial
  have hk3 := hE.cell hc3 trivial
  repeat' go_step
  go_quiet (fail)
  repeat' go_step
  generalize hw2 : World.drewN w1 _ = w2
  have hE2 : Ext w w2 := hE.trans (hw2 ▸ OnS.drewN w1 _)
  have hB2 : Bx w2 w.heap.size 28 [.int .u8 0, .slice none 0 0] := hB.to (hw2 ▸ OnS.drewN w1 _) trivial
  clear hw2
  exact bad_ret11 hE2 hB2 rfl rfl rfl rfl

set_option maxHeartbeats 1000000 in
theorem rf_e12 {S : Nat → Prop} {A : Option Addr} {n c : Nat} {b : List Int} (w : World) (H : SR S w tU8 A n c b) (h2 : 2 ≤ n) (h4 : n ≤ 4096) (ht : b.getD 0 0 % 32 ≠ 31) (hx : b.getD 1 0 = 130) (hy : 4 ≤ n) (hz : 256 ≤ 256 * b.getD 2 0 + b.getD 3 0 ∧ (n : Int) < 256 * b.getD 2 0 + b.getD 3 0 + 4) (_ : ¬ S w.heap.size) :
    Calls Try.prog 11 #[.slice A n c] w fun x w' => ∃ v, x = .returned v ∧ Ext w w' ∧ RfRes S w' v 0 [] [] 30 := by
  have hl := H.len
  have hs := H.small
  obtain ⟨ad0, x0, e0, hi0, hc0, hs0, hr0, hr0'⟩ := H.idx8 Try.underlying25 Try.size5 .i64 0 0 rfl (by omega)
  obtain ⟨ad1, x1, e1, hi1, hc1, hs1, hr1, hr1'⟩ := H.idx8 Try.underlying25 Try.size5 .i64 1 1 rfl (by omega)
  rw [e0] at ht; rw [e1] at hx
  have ht' : (x0 % 32 == 31) = false := by simpa using ht
  have E0 := Lib.hid e0
  have E1 := Lib.hid e1
  clear e0 e1
  subst hx
  obtain ⟨ad2, x2, e2, hi2, hc2, hs2, hr2, hr2'⟩ := H.idx8 Try.underlying25 Try.size5 .i64 2 2 rfl (by omega)
  obtain ⟨ad3, x3, e3, hi3, hc3, hs3, hr3, hr3'⟩ := H.idx8 Try.underlying25 Try.size5 .i64 3 3 rfl (by omega)
  rw [e2, e3] at hz
  have E2 := Lib.hid e2
  have E3 := Lib.hid e3
  clear e2 e3
  have hm0 : 0 ≤ 256 * x2 + x3 := by omega
  have hm1 : 256 * x2 + x3 ≤ 65535 := by omega
  obtain ⟨hz1, hz2⟩ := hz
  go_enter Try.func11, Try.ntmps11
  iterate 6 go_step
  generalize hw1 : World.alloc w _ = w1
  have hB : Bx w1 w.heap.size 28 [.int .u8 0, .slice none 0 0] := hw1 ▸ Bx.new w [.int .u8 0, .slice none 0 0] 28
  have hE : Ext w w1 := hw1 ▸ OnS.alloc w _
  have hb0 := hB.cell 0
  have hb1 := hB.cell 1
  have hf0 := hB.frozen 0
  have hf1 := hB.frozen 1
  simp only [List.getElem?_cons_zero, List.getElem?_cons_succ] at hb0 hb1
  clear hw1
  have hk0 := hE.cell hc0 trivial
  have hk1 := hE.cell hc1 trivial
  have hk2 := hE.cell hc2 trivial
  have hk3 := hE.cell hc3 trivial
  repeat' go_step
  go_quiet (fail)
  repeat' go_step
  generalize hw2 : World.drewN w1 _ = w2
  have hE2 : Ext w w2 := hE.trans (hw2 ▸ OnS.drewN w1 _)
  have hB2 : Bx w2 w.heap.size 28 [.int .u8 0, .slice none 0 0] := hB.to (hw2 ▸ OnS.drewN w1 _) trivial
  clear hw2
  exact bad_ret11 hE2 hB2 rfl rfl rfl rfl

set_option maxHeartbeats 2000000 in
theorem rf_ok1 {S : Nat → Prop} {A : Option Addr} {n c : Nat} {b : List Int} (w : World) (H : SR S w tU8 A n c b) (h2 : 2 ≤ n) (h4 : n ≤ 4096) (ht : b.getD 0 0 % 32 ≠ 31) (hx : b.getD 1 0 < 128) (hz : b.getD 1 0 + 2 ≤ (n : Int)) (hS : ¬ S w.heap.size) :
    Calls Try.prog 11 #[.slice A n c] w fun x w' => ∃ v, x = .returned v ∧ Ext w w' ∧ RfRes S w' v (b.getD 0 0) ((b.drop 2).take (b.getD 1 0).toNat) ((b.drop 2).drop (b.getD 1 0).toNat) 0 := by
  have hl := H.len
  have hs := H.small
  obtain ⟨ad0, x0, e0, hi0, hc0, hs0, hr0, hr0'⟩ := H.idx8 Try.underlying25 Try.size5 .i64 0 0 rfl (by omega)
  obtain ⟨ad1, x1, e1, hi1, hc1, hs1, hr1, hr1'⟩ := H.idx8 Try.underlying25 Try.size5 .i64 1 1 rfl (by omega)
  rw [e0] at ht; rw [e1] at hx hz
  have ht' : (x0 % 32 == 31) = false := by simpa using ht
  have E0 := Lib.hid e0
  have E1 := Lib.hid e1
  clear e0 e1
  obtain ⟨A8, n8, c8, hcut8, H8, hn8, hn8'⟩ := H.cutLH Try.underlying25 Try.size5 .i64 .i64 2 (2 + (x1)) 2 (2 + (x1).toNat) rfl (by omega) (by omega) (by omega)
  obtain ⟨A9, n9, c9, hcut9, H9, hn9, hn9'⟩ := H.cutL Try.underlying25 Try.size5 .i64 (2 + (x1)) (2 + (x1).toNat) (by omega) (by omega)
  have hd8 : (b.take (2 + (x1).toNat)).drop 2 = (b.drop 2).take (x1).toNat := by rw [List.drop_take]; congr 1; omega
  have hd9 : b.drop (2 + (x1).toNat) = (b.drop 2).drop (x1).toNat := by rw [List.drop_drop]
  rw [hd8] at H8
  rw [hd9] at H9
  clear hd8 hd9
  rw [E0.out, E1.out]
  go_enter Try.func11, Try.ntmps11
  iterate 6 go_step
  generalize hw1 : World.alloc w _ = w2
  have hB : Bx w2 w.heap.size 28 [.int .u8 0, .slice none 0 0] := hw1 ▸ Bx.new w [.int .u8 0, .slice none 0 0] 28
  have hE : Ext w w2 := hw1 ▸ OnS.alloc w _
  have hb0 := hB.cell 0
  have hb1 := hB.cell 1
  have hf0 := hB.frozen 0
  have hf1 := hB.frozen 1
  simp only [List.getElem?_cons_zero, List.getElem?_cons_succ] at hb0 hb1
  clear hw1
  have hk0 := hE.cell hc0 trivial
  have hk1 := hE.cell hc1 trivial
  repeat' go_step
  have hE2 := hE
  have hB2 := hB
  have hk0z := hE2.cell hc0 trivial
  have hb0 := hB2.cell 0
  have hb1 := hB2.cell 1
  have hf0 := hB2.frozen 0
  have hf1 := hB2.frozen 1
  have hz3 := hB2.lt
  simp only [List.getElem?_cons_zero, List.getElem?_cons_succ] at hb0 hb1
  have hwr : IntKind.i64.wrap (2 + (x1)) = 2 + (x1) := IntWalk.i64_in _ ⟨by omega, by omega⟩
  go_region
  repeat' go_step
  have hO : ∀ (u v : Value), OnS (· ≠ w.heap.size) w2 ((w2.setCell ⟨w.heap.size, 0, none⟩ u).setCell ⟨w.heap.size, 1, none⟩ v).drew := fun u v => ((OnS.setCell w2 ⟨w.heap.size, 0, none⟩ u).trans (OnS.setCell _ ⟨w.heap.size, 1, none⟩ v)).trans (OnS.ext (OnS.drew _))
  have hO2 : ∀ (u v : Value), OnS S w ((w2.setCell ⟨w.heap.size, 0, none⟩ u).setCell ⟨w.heap.size, 1, none⟩ v).drew := fun u v => OnS.since (OnS.ext hE2) (hO u v) (fun i hi _ => by omega)
  refine bodyPost_ret (res11 (((hB2.set 0 (.int .u8 x0)).set 1 (.slice A8 n8 c8)).to (OnS.drew _) trivial) _ rfl rfl rfl) rfl ⟨_, rfl, ?_, A8, n8, c8, A9, n9, c9, rfl, H8.mono (hO2 _ _), H9.mono (hO2 _ _)⟩
  exact OnS.since hE2 (hO _ _) (fun i hi _ => by omega)

set_option maxHeartbeats 2000000 in
theorem rf_ok2 {S : Nat → Prop} {A : Option Addr} {n c : Nat} {b : List Int} (w : World) (H : SR S w tU8 A n c b) (h2 : 2 ≤ n) (h4 : n ≤ 4096) (ht : b.getD 0 0 % 32 ≠ 31) (hx : b.getD 1 0 = 129) (hz : 128 ≤ b.getD 2 0 ∧ b.getD 2 0 + 3 ≤ (n : Int)) (hS : ¬ S w.heap.size) :
    Calls Try.prog 11 #[.slice A n c] w fun x w' => ∃ v, x = .returned v ∧ Ext w w' ∧ RfRes S w' v (b.getD 0 0) ((b.drop 3).take (b.getD 2 0).toNat) ((b.drop 3).drop (b.getD 2 0).toNat) 0 := by
  have hl := H.len
  have hs := H.small
  obtain ⟨ad0, x0, e0, hi0, hc0, hs0, hr0, hr0'⟩ := H.idx8 Try.underlying25 Try.size5 .i64 0 0 rfl (by omega)
  obtain ⟨ad1, x1, e1, hi1, hc1, hs1, hr1, hr1'⟩ := H.idx8 Try.underlying25 Try.size5 .i64 1 1 rfl (by omega)
  rw [e0] at ht; rw [e1] at hx
  have ht' : (x0 % 32 == 31) = false := by simpa using ht
  have E0 := Lib.hid e0
  have E1 := Lib.hid e1
  clear e0 e1
  have h3n : 3 ≤ n := by have := (SR.byte H 2).1; omega
  subst hx
  obtain ⟨ad2, x2, e2, hi2, hc2, hs2, hr2, hr2'⟩ := H.idx8 Try.underlying25 Try.size5 .i64 2 2 rfl (by omega)
  rw [e2] at hz
  have E2 := Lib.hid e2
  clear e2
  obtain ⟨hz1, hz2⟩ := hz
  obtain ⟨A8, n8, c8, hcut8, H8, hn8, hn8'⟩ := H.cutLH Try.underlying25 Try.size5 .i64 .i64 3 (3 + (x2)) 3 (3 + (x2).toNat) rfl (by omega) (by omega) (by omega)
  obtain ⟨A9, n9, c9, hcut9, H9, hn9, hn9'⟩ := H.cutL Try.underlying25 Try.size5 .i64 (3 + (x2)) (3 + (x2).toNat) (by omega) (by omega)
  have hd8 : (b.take (3 + (x2).toNat)).drop 3 = (b.drop 3).take (x2).toNat := by rw [List.drop_take]; congr 1; omega
  have hd9 : b.drop (3 + (x2).toNat) = (b.drop 3).drop (x2).toNat := by rw [List.drop_drop]
  rw [hd8] at H8
  rw [hd9] at H9
  clear hd8 hd9
  rw [E0.out, E2.out]
  go_enter Try.func11, Try.ntmps11
  iterate 6 go_step
  generalize hw1 : World.alloc w _ = w2
  have hB : Bx w2 w.heap.size 28 [.int .u8 0, .slice none 0 0] := hw1 ▸ Bx.new w [.int .u8 0, .slice none 0 0] 28
  have hE : Ext w w2 := hw1 ▸ OnS.alloc w _
  have hb0 := hB.cell 0
  have hb1 := hB.cell 1
  have hf0 := hB.frozen 0
  have hf1 := hB.frozen 1
  simp only [List.getElem?_cons_zero, List.getElem?_cons_succ] at hb0 hb1
  clear hw1
  have hk0 := hE.cell hc0 trivial
  have hk1 := hE.cell hc1 trivial
  have hk2 := hE.cell hc2 trivial
  repeat' go_step
  have hE2 := hE
  have hB2 := hB
  have hk0z := hE2.cell hc0 trivial
  have hb0 := hB2.cell 0
  have hb1 := hB2.cell 1
  have hf0 := hB2.frozen 0
  have hf1 := hB2.frozen 1
  have hz3 := hB2.lt
  simp only [List.getElem?_cons_zero, List.getElem?_cons_succ] at hb0 hb1
  have hwr : IntKind.i64.wrap (3 + (x2)) = 3 + (x2) := IntWalk.i64_in _ ⟨by omega, by omega⟩
  go_region
  repeat' go_step
  have hO : ∀ (u v : Value), OnS (· ≠ w.heap.size) w2 ((w2.setCell ⟨w.heap.size, 0, none⟩ u).setCell ⟨w.heap.size, 1, none⟩ v).drew := fun u v => ((OnS.setCell w2 ⟨w.heap.size, 0, none⟩ u).trans (OnS.setCell _ ⟨w.heap.size, 1, none⟩ v)).trans (OnS.ext (OnS.drew _))
  have hO2 : ∀ (u v : Value), OnS S w ((w2.setCell ⟨w.heap.size, 0, none⟩ u).setCell ⟨w.heap.size, 1, none⟩ v).drew := fun u v => OnS.since (OnS.ext hE2) (hO u v) (fun i hi _ => by omega)
  refine bodyPost_ret (res11 (((hB2.set 0 (.int .u8 x0)).set 1 (.slice A8 n8 c8)).to (OnS.drew _) trivial) _ rfl rfl rfl) rfl ⟨_, rfl, ?_, A8, n8, c8, A9, n9, c9, rfl, H8.mono (hO2 _ _), H9.mono (hO2 _ _)⟩
  exact OnS.since hE2 (hO _ _) (fun i hi _ => by omega)

set_option maxHeartbeats 2000000 in
theorem rf_ok3 {S : Nat → Prop} {A : Option Addr} {n c : Nat} {b : List Int} (w : World) (H : SR S w tU8 A n c b) (h2 : 2 ≤ n) (h4 : n ≤ 4096) (ht : b.getD 0 0 % 32 ≠ 31) (hx : b.getD 1 0 = 130) (hy : 4 ≤ n) (hz : 256 ≤ 256 * b.getD 2 0 + b.getD 3 0 ∧ 256 * b.getD 2 0 + b.getD 3 0 + 4 ≤ (n : Int)) (hS : ¬ S w.heap.size) :
    Calls Try.prog 11 #[.slice A n c] w fun x w' => ∃ v, x = .returned v ∧ Ext w w' ∧ RfRes S w' v (b.getD 0 0) ((b.drop 4).take (256 * b.getD 2 0 + b.getD 3 0).toNat) ((b.drop 4).drop (256 * b.getD 2 0 + b.getD 3 0).toNat) 0 := by
  have hl := H.len
  have hs := H.small
  obtain ⟨ad0, x0, e0, hi0, hc0, hs0, hr0, hr0'⟩ := H.idx8 Try.underlying25 Try.size5 .i64 0 0 rfl (by omega)
  obtain ⟨ad1, x1, e1, hi1, hc1, hs1, hr1, hr1'⟩ := H.idx8 Try.underlying25 Try.size5 .i64 1 1 rfl (by omega)
  rw [e0] at ht; rw [e1] at hx
  have ht' : (x0 % 32 == 31) = false := by simpa using ht
  have E0 := Lib.hid e0
  have E1 := Lib.hid e1
  clear e0 e1
  subst hx
  obtain ⟨ad2, x2, e2, hi2, hc2, hs2, hr2, hr2'⟩ := H.idx8 Try.underlying25 Try.size5 .i64 2 2 rfl (by omega)
  obtain ⟨ad3, x3, e3, hi3, hc3, hs3, hr3, hr3'⟩ := H.idx8 Try.underlying25 Try.size5 .i64 3 3 rfl (by omega)
  rw [e2, e3] at hz
  have E2 := Lib.hid e2
  have E3 := Lib.hid e3
  clear e2 e3
  have hm0 : 0 ≤ 256 * x2 + x3 := by omega
  have hm1 : 256 * x2 + x3 ≤ 65535 := by omega
  obtain ⟨hz1, hz2⟩ := hz
  obtain ⟨A8, n8, c8, hcut8, H8, hn8, hn8'⟩ := H.cutLH Try.underlying25 Try.size5 .i64 .i64 4 (4 + (256 * x2 + x3)) 4 (4 + (256 * x2 + x3).toNat) rfl (by omega) (by omega) (by omega)
  obtain ⟨A9, n9, c9, hcut9, H9, hn9, hn9'⟩ := H.cutL Try.underlying25 Try.size5 .i64 (4 + (256 * x2 + x3)) (4 + (256 * x2 + x3).toNat) (by omega) (by omega)
  have hd8 : (b.take (4 + (256 * x2 + x3).toNat)).drop 4 = (b.drop 4).take (256 * x2 + x3).toNat := by rw [List.drop_take]; congr 1; omega
  have hd9 : b.drop (4 + (256 * x2 + x3).toNat) = (b.drop 4).drop (256 * x2 + x3).toNat := by rw [List.drop_drop]
  rw [hd8] at H8
  rw [hd9] at H9
  clear hd8 hd9
  rw [E0.out, E2.out, E3.out]
  go_enter Try.func11, Try.ntmps11
  iterate 6 go_step
  generalize hw1 : World.alloc w _ = w1
  have hB : Bx w1 w.heap.size 28 [.int .u8 0, .slice none 0 0] := hw1 ▸ Bx.new w [.int .u8 0, .slice none 0 0] 28
  have hE : Ext w w1 := hw1 ▸ OnS.alloc w _
  have hb0 := hB.cell 0
  have hb1 := hB.cell 1
  have hf0 := hB.frozen 0
  have hf1 := hB.frozen 1
  simp only [List.getElem?_cons_zero, List.getElem?_cons_succ] at hb0 hb1
  clear hw1
  have hk0 := hE.cell hc0 trivial
  have hk1 := hE.cell hc1 trivial
  have hk2 := hE.cell hc2 trivial
  have hk3 := hE.cell hc3 trivial
  repeat' go_step
  go_quiet (fail)
  repeat' go_step
  generalize hw2 : World.drewN w1 _ = w2
  have hE2 : Ext w w2 := hE.trans (hw2 ▸ OnS.drewN w1 _)
  have hB2 : Bx w2 w.heap.size 28 [.int .u8 0, .slice none 0 0] := hB.to (hw2 ▸ OnS.drewN w1 _) trivial
  clear hw2
  have hk0z := hE2.cell hc0 trivial
  have hb0 := hB2.cell 0
  have hb1 := hB2.cell 1
  have hf0 := hB2.frozen 0
  have hf1 := hB2.frozen 1
  have hz3 := hB2.lt
  simp only [List.getElem?_cons_zero, List.getElem?_cons_succ] at hb0 hb1
  have hwr : IntKind.i64.wrap (4 + (256 * x2 + x3)) = 4 + (256 * x2 + x3) := IntWalk.i64_in _ ⟨by omega, by omega⟩
  go_region
  repeat' go_step
  have hO : ∀ (u v : Value), OnS (· ≠ w.heap.size) w2 ((w2.setCell ⟨w.heap.size, 0, none⟩ u).setCell ⟨w.heap.size, 1, none⟩ v).drew := fun u v => ((OnS.setCell w2 ⟨w.heap.size, 0, none⟩ u).trans (OnS.setCell _ ⟨w.heap.size, 1, none⟩ v)).trans (OnS.ext (OnS.drew _))
  have hO2 : ∀ (u v : Value), OnS S w ((w2.setCell ⟨w.heap.size, 0, none⟩ u).setCell ⟨w.heap.size, 1, none⟩ v).drew := fun u v => OnS.since (OnS.ext hE2) (hO u v) (fun i hi _ => by omega)
  refine bodyPost_ret (res11 (((hB2.set 0 (.int .u8 x0)).set 1 (.slice A8 n8 c8)).to (OnS.drew _) trivial) _ rfl rfl rfl) rfl ⟨_, rfl, ?_, A8, n8, c8, A9, n9, c9, rfl, H8.mono (hO2 _ _), H9.mono (hO2 _ _)⟩
  exact OnS.since hE2 (hO _ _) (fun i hi _ => by omega)

theorem refRead_any {S : Nat → Prop} {A : Option Addr} {n c : Nat} {b : List Int} (w : World) (H0 : SR S w tU8 A n c b) :
    Calls Try.prog 11 #[.slice A n c] w fun x w' => ∃ v, x = .returned v ∧ Ext w w' ∧ RfRes S w' v (derRead b).1 (derRead b).2.1 (derRead b).2.2.1 (derRead b).2.2.2 := by
  have H : SR (fun k => S k ∧ k < w.heap.size) w tU8 A n c b := H0.weaken (by decide) (fun k h1 h2 => ⟨h2, h1⟩)
  have hS : ¬ (fun k => S k ∧ k < w.heap.size) w.heap.size := fun h => by have := h.2; omega
  have hl := H.len
  have g1 := SR.byte H 1
  have g2 := SR.byte H 2
  have g3 := SR.byte H 3
  have wk : ∀ {x : Ending} {w' : World} {t : Int} {bd rs : List Int} {e : Int}, (∃ v, x = .returned v ∧ Ext w w' ∧ RfRes (fun k => S k ∧ k < w.heap.size) w' v t bd rs e) → ∃ v, x = .returned v ∧ Ext w w' ∧ RfRes S w' v t bd rs e := by
    rintro x w' t bd rs e ⟨v, h1, h2, A1, n1, c1, A2, n2, c2, h3, h4, h5⟩
    exact ⟨v, h1, h2, A1, n1, c1, A2, n2, c2, h3, h4.weaken (by decide) (fun k _ hk => hk.1), h5.weaken (by decide) (fun k _ hk => hk.1)⟩
  unfold derRead
  rw [hl]
  split
  · exact (rf_e1 w H (by omega) hS).mono fun _ _ => wk
  split
  · exact (rf_e2 w H (by omega) hS).mono fun _ _ => wk
  split
  · exact (rf_e3 w H (by omega) (by omega) (by assumption) hS).mono fun _ _ => wk
  split
  · split
    · exact (rf_ok1 w H (by omega) (by omega) (by assumption) (by omega) (by omega) hS).mono fun _ _ => wk
    · exact (rf_e4 w H (by omega) (by omega) (by assumption) (by omega) hS).mono fun _ _ => wk
  split
  · rename_i h129
    split
    · exact (rf_ok2 w H (by omega) (by omega) (by assumption) h129 (by omega) hS).mono fun _ _ => wk
    · by_cases h3 : 3 ≤ n
      · by_cases h8 : b.getD 2 0 < 128
        · exact (rf_e9 w H (by omega) (by omega) (by assumption) h129 h3 h8 hS).mono fun _ _ => wk
        · exact (rf_e10 w H (by omega) (by omega) (by assumption) h129 h3 (by omega) hS).mono fun _ _ => wk
      · exact (rf_e7 w H (by omega) (by omega) (by assumption) h129 (by omega) hS).mono fun _ _ => wk
  split
  · rename_i h130
    have he : b.getD 2 0 * 256 + b.getD 3 0 = 256 * b.getD 2 0 + b.getD 3 0 := by omega
    split
    · rw [he]
      exact (rf_ok3 w H (by omega) (by omega) (by assumption) h130 (by omega) (by omega) hS).mono fun _ _ => wk
    · by_cases h3 : 4 ≤ n
      · by_cases h0 : b.getD 2 0 = 0
        · exact (rf_e11 w H (by omega) (by omega) (by assumption) h130 h3 (by omega) hS).mono fun _ _ => wk
        · exact (rf_e12 w H (by omega) (by omega) (by assumption) h130 h3 (by omega) hS).mono fun _ _ => wk
      · exact (rf_e8 w H (by omega) (by omega) (by assumption) h130 (by omega) hS).mono fun _ _ => wk
  · exact (rf_e5 w H (by omega) (by omega) (by assumption) (by omega) hS).mono fun _ _ => wk
end Go.Proofs.Ytikekdifipacmaa
