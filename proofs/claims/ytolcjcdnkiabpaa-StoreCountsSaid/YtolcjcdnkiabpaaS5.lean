/- Store: find, Put, Get, Mark where there is at most one. -/
import Derived.Test.YtolcjcdnkiabpaaS4
import Derived.BigQuiet
import Derived.Deep.QuietTactic
import Derived.RegionTactic
import Derived.BigRegion
import Derived.ChangeAlike
namespace Go.Proofs.Ytolcjcdnkiabpaa
open Go.RowKit

theorem find_nil {sb : Nat} {room : Int} {B : Option Addr} {m d : Nat} (w : World) (hs : Bx w sb 79 [.int .i64 room, .slice none 0 0]) :
    Calls Try.prog 28 #[.pointer (some ⟨sb, 0, none⟩), .slice B m d] w fun e w' => e = .returned (.tuple #[.int .i64 0, .bool false]) ∧ Ext w w' := by
  have q1 := hs.cell 1
  simp only [List.getElem?_cons_zero, List.getElem?_cons_succ] at q1
  go_enter Try.func28, Try.ntmps28
  repeat' (first | go_values | go_skip | go_guarded | go_step)
  refine (search_nil w).mono ?_
  rintro e w2 ⟨rfl, hE⟩
  dsimp only
  repeat' (first | go_values | go_skip | go_guarded | go_step)
  go_ret2
  exact ⟨rfl, hE⟩

theorem find_one {S : Nat → Prop} {A B : Option Addr} {n c m d g cap sb : Nat} {xs : List Int} {more : List Value} {room : Int} (w : World) (user : ByteArray) (count trust : Int) (cloned : Bool) (hs : Bx w sb 79 [.int .i64 room, .slice (some ⟨g, 0, none⟩) 1 cap]) (hg : Bx w g 42 (crL (.slice A n c) user count trust cloned ++ more)) (HA : SR S w tU8 A n c xs) (HB : SR S w tU8 B m d xs) :
    Calls Try.prog 28 #[.pointer (some ⟨sb, 0, none⟩), .slice B m d] w fun e w' => e = .returned (.tuple #[.int .i64 0, .bool true]) ∧ Ext w w' := by
  have q1 := hs.cell 1
  simp only [List.getElem?_cons_zero, List.getElem?_cons_succ] at q1
  go_enter Try.func28, Try.ntmps28
  repeat' (first | go_values | go_skip | go_guarded | go_step)
  refine (search_one w user count trust cloned hg HA HB).mono ?_
  rintro e w2 ⟨rfl, hE⟩
  dsimp only
  repeat' (first | go_values | go_skip | go_guarded | go_step)
  go_ret2
  exact ⟨rfl, hE⟩

set_option maxRecDepth 100000 in
set_option maxHeartbeats 4000000 in
theorem put_nil {S : Nat → Prop} {A : Option Addr} {n c sb : Nat} {xs : List Int} {room : Int} (w : World) (user : ByteArray) (count trust : Int) (cloned : Bool) (hs : Bx w sb 79 [.int .i64 room, .slice none 0 0]) (HA : SR S w tU8 A n c xs) (hn0 : 1 ≤ n) (hn1 : n ≤ 128) (hroom : 0 < room) :
    Calls Try.prog 10 #[.pointer (some ⟨sb, 0, none⟩), .agg (crL (.slice A n c) user count trust cloned).toArray] w fun e w' => e = .returned (.int .i64 0) ∧ OnS (· ≠ sb) w w' ∧
      ∃ g cap A' c' more, w.heap.size ≤ g ∧ Bx w' sb 79 [.int .i64 room, .slice (some ⟨g, 0, none⟩) 1 cap] ∧ Bx w' g 42 (crL (.slice A' n c') user count trust cloned ++ more) ∧ SR (fun k => w.heap.size ≤ k ∧ k ≠ g) w' tU8 A' n c' xs := by
  have hlt := hs.lt
  go_enter Try.func10, Try.ntmps10
  iterate 5 (first | go_values | go_skip | go_guarded | go_step)
  generalize hw1 : World.alloc w _ = w1
  have hE1 : Ext w w1 := hw1 ▸ OnS.alloc _ _
  have hB1 : Bx w1 w.heap.size 42 (crL (.slice A n c) user count trust cloned) := hw1 ▸ Bx.new w _ 42
  clear hw1
  have q0 := hB1.cell 0
  simp only [crL, List.getElem?_cons_zero] at q0
  repeat' (first | go_values | go_skip | go_guarded | go_step)
  refine (find_nil w1 (hs.to hE1 trivial)).mono ?_
  rintro e w2 ⟨rfl, hE2⟩
  dsimp only
  have hB2 := hB1.to hE2 trivial
  have hs2 := (hs.to hE1 trivial).to hE2 trivial
  have q0 := hB2.cell 0
  have p0 := hs2.cell 0
  have p1 := hs2.cell 1
  simp only [crL, List.getElem?_cons_zero, List.getElem?_cons_succ] at q0 p0 p1
  have hd1 : decide ((n : Int) < 1) = false := by simp; omega
  have hd2 : decide (128 < (n : Int)) = false := by simp; omega
  have hd3 : decide (room ≤ 0) = false := by simp; omega
  repeat' (first | go_values | go_skip | go_guarded | go_step)
  go_quiet (fail)
  repeat' (first | go_values | go_skip | go_guarded | go_step)
  have hE3 := OnS.drewN w2 nq
  generalize World.drewN w2 nq = w3 at *
  have hB3 := hB2.to hE3 trivial
  have hs3 := hs2.to hE3 trivial
  have hA3 := HA.mono (OnS.ext (hE1.trans (hE2.trans hE3)))
  clear q0 p0 p1
  have hz0 := hE1.size
  have hz1 := hE2.size
  have hz2 := hE3.size
  refine region_ms (by kernel_rfl) 12 (by kernel_rfl) (by decide) ?_
  simp only [List.take_succ_cons, List.take_zero, List.drop_succ_cons, List.drop_zero]
  refine ms_val (.pointer (some ⟨sb, 0, none⟩)) rfl (fun ρ W hE' hh => by simp [toldE, lk, Op.operands, Act.eval] at hh; go_simp) ?_
  refine ms_val (.pointer (some ⟨sb, 0, none⟩)) rfl (fun ρ W hE' hh => by simp [toldE, lk, Op.operands, Act.eval] at hh; go_simp) ?_
  refine ms_val (.pointer (some ⟨sb, 0, none⟩)) rfl (fun ρ W hE' hh => by simp [toldE, lk, Op.operands, Act.eval] at hh; go_simp) ?_
  refine ms_val (.pointer (some ⟨sb, 1, none⟩)) rfl (fun ρ W hE' hh => by simp [toldE, lk, Op.operands, Act.eval] at hh; go_simp) ?_
  refine ms_val (.slice none 0 0) rfl (fun ρ W hE' hh => by have p1 := (hs3.to hE' trivial).cell 1; simp only [List.getElem?_cons_zero, List.getElem?_cons_succ] at p1; simp [toldE, lk, Op.operands, Act.eval] at hh; go_simp) ?_
  refine ms_val (.int .i64 0) rfl (fun ρ W hE' hh => by simp [toldE, lk, Op.operands, Act.eval] at hh; go_simp) ?_
  refine ms_val (.agg (crL (.slice A n c) user count trust cloned).toArray) rfl (fun ρ W hE' hh => ?_) ?_
  · simp [toldE, lk, Op.operands, Act.eval] at hh
    have hld := run_load_part (P := Try.prog) (t := 42) (off := 0) (vs := crL (.slice A n c) user count trust cloned) (hB3.to hE' trivial) (by kernel_rfl) rfl rfl
    simp [execOp, hh, Instr.loadAt, Instr.sureAddr, hld]
  refine ms_any (fun v W => ∃ A' c', v = .agg (crL (.slice A' n c') user count trust cloned).toArray ∧ SR (w.heap.size ≤ ·) W tU8 A' n c' xs) rfl (fun v W W' h ⟨A', c', e, hS⟩ => ⟨A', c', e, hS.mono (OnS.ext h)⟩) (fun ρ W hE' hh => ?_) ?_
  · simp [toldE, lk, Op.operands, Call.operands, Act.eval] at hh
    refine runs_call (f := 30) (args := #[.agg (crL (.slice A n c) user count trust cloned).toArray]) (by go_simp) ((copied_nil W user count trust cloned (hA3.mono (OnS.ext hE'))).mono ?_)
    rintro e W2 ⟨A', c', rfl, hEW, hS⟩
    have := hE'.size
    exact ⟨_, rfl, hEW, A', c', rfl, hS.weaken (by decide) (fun k _ hk => by omega)⟩
  refine ms_any (fun v W => ∃ g A' c', v = .slice (some ⟨g, 0, none⟩) 1 1 ∧ w.heap.size ≤ g ∧ Bx W g 42 (crL (.slice A' n c') user count trust cloned) ∧ SR (fun k => w.heap.size ≤ k ∧ k ≠ g) W tU8 A' n c' xs) rfl (fun v W W' h ⟨g, A', c', e, hg, hB, hS⟩ => ⟨g, A', c', e, hg, hB.to h trivial, hS.mono (OnS.ext h)⟩) (fun ρ W hE' hh => ?_) ?_
  · simp [toldE, lk, Op.operands, Act.eval] at hh
    obtain ⟨A', c', hv, hS⟩ := hh
    have hsz := hE'.size
    refine runs_val (v := .slice (some ⟨W.heap.size, 0, none⟩) 1 1) (w' := W.alloc (.cells (crL (.slice A' n c') user count trust cloned).toArray 42)) (by go_simp) (OnS.alloc _ _) ⟨W.heap.size, A', c', rfl, by omega, Bx.new W _ 42, ?_⟩
    exact (hS.weaken (S' := fun k => w.heap.size ≤ k ∧ k ≠ W.heap.size) (by decide) (fun k hk h => ⟨h, by omega⟩)).mono (OnS.ext (OnS.alloc _ _))
  refine ms_any (fun v W => ∃ b cap A' c' more, v = .slice (some ⟨b, 0, none⟩) 1 cap ∧ w.heap.size ≤ b ∧ Bx W b 42 (crL (.slice A' n c') user count trust cloned ++ more) ∧ SR (fun k => w.heap.size ≤ k ∧ k ≠ b) W tU8 A' n c' xs) rfl (fun v W W' h ⟨b, cap, A', c', more, e, hg, hB, hS⟩ => ⟨b, cap, A', c', more, e, hg, hB.to h trivial, hS.mono (OnS.ext h)⟩) (fun ρ W hE' hh => ?_) ?_
  · simp [toldE, lk, Op.operands, Call.operands, Act.eval] at hh
    obtain ⟨h1, h2, h3, g, hv, hg, A', c', hB, hS⟩ := hh
    refine runs_call (f := 29) (args := #[.slice none 0 0, .int .i64 0, .slice (some ⟨g, 0, none⟩) 1 1]) (by go_simp) ((insert_nil (x := (xs, user, count, trust, cloned)) W hB ⟨A', n, c', rfl, hS.weaken (by decide) (fun k hk _ => hk)⟩).mono ?_)
    rintro e W2 ⟨b, cap, more, rfl, hEW, hb, hB2⟩
    have hsz := hE'.size
    exact ⟨_, rfl, hEW, b, cap, A', c', more, rfl, by omega, hB2, (hS.weaken (S' := fun k => w.heap.size ≤ k ∧ k ≠ b) (by decide) (fun k hk h => ⟨h.1, by omega⟩)).mono (OnS.ext hEW)⟩
  refine ms_val (.pointer (some ⟨sb, 0, none⟩)) rfl (fun ρ W hE' hh => by simp [toldE, lk, Op.operands, Act.eval] at hh; go_simp) ?_
  refine ms_val (.pointer (some ⟨sb, 1, none⟩)) rfl (fun ρ W hE' hh => by simp [toldE, lk, Op.operands, Act.eval] at hh; go_simp) ?_
  intro W hE'
  simp only [FinE]
  rintro _ rfl _ rfl _ rfl _ rfl _ rfl _ rfl _ rfl v7 _ v8 _ v9 ⟨b, cap, A', c', more, rfl, hb, hBW, hSW⟩ _ rfl _ rfl
  simp only [Act.put, List.setIfInBounds_toArray, List.set_cons_zero, List.set_cons_succ]
  have hsW := hs3.to hE' trivial
  have p1 := hsW.cell 1
  have g1 := hsW.frozen 1
  simp only [List.getElem?_cons_zero, List.getElem?_cons_succ] at p1
  repeat' (first | go_values | go_skip | go_guarded | go_step)
  go_ret
  have hsz := hE'.size
  have hO := OnS.setCell W ⟨sb, 1, none⟩ (.slice (some ⟨b, 0, none⟩) 1 cap)
  refine ⟨rfl, ?_, b, cap, A', c', more, hb, hsW.set 1 _, hBW.to hO (by simp only; omega), hSW.mono (hO.weaken (fun k _ hk => by simp only; omega))⟩
  exact (OnS.ext (hE1.trans (hE2.trans (hE3.trans hE')))).trans hO
end Go.Proofs.Ytolcjcdnkiabpaa
