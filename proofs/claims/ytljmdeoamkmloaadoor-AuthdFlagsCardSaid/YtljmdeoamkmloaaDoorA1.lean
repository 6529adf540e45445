/- cbor's reader: a fault; a head of nothing. -/
import Derived.Test.YtljmdeoamkmloaaDoorK9
import Derived.Test.YtljmdeoamkmloaaDoorProg
import Derived.Lib.Hide
import Derived.IntWalk
import Derived.RegionTactic
import Derived.BigRegion
import Derived.ChangeAlike
namespace Go.Proofs.YtljmdeoamkmloaaDoor
open Go.RowKit

abbrev zItem : Value := .agg #[.int .u8 0, .int .u64 0, .slice none 0 0, .slice none 0 0]
/-- A reader's cells. -/
abbrev rdr (A : Option Addr) (n c : Nat) (items err : Int) : List Value := [.slice A n c, .int .i64 items, .int .i64 err]

set_option maxHeartbeats 1000000 in
theorem fail_any {rb : Nat} {A : Option Addr} {n c : Nat} {items err : Int} (w : World) (e : Int) (h : Bx w rb 53 (rdr A n c items err)) :
    Calls Tryd.prog 17 #[.pointer (some ⟨rb, 0, none⟩), .int .i64 e] w fun x w' => x = .returned zItem ∧ OnS (· ≠ rb) w w' ∧ Bx w' rb 53 (rdr A n c items (if err = 0 then e else err)) := by
  have hlt := h.lt
  go_enter Tryd.func17, Tryd.ntmps17
  have c2 := h.cell 2
  have f2 := h.frozen 2
  simp only [rdr, List.getElem?_cons_zero, List.getElem?_cons_succ] at c2
  by_cases he : err = 0
  · have hb : (err == 0) = true := by simpa using he
    repeat' (first | go_values | go_skip | go_guarded | go_step)
    refine bodyPost_ret (v := zItem) (by simp [results, Tryd.results17, go_sem]) rfl ⟨rfl, ?_, ?_⟩
    · exact (OnS.setCell w ⟨rb, 2, none⟩ _).trans (OnS.ext (OnS.alloc _ _))
    · rw [if_pos he]
      exact (h.set 2 (.int .i64 e)).to (OnS.alloc _ _) trivial
  · have hb : (err == 0) = false := by simpa using he
    repeat' (first | go_values | go_skip | go_guarded | go_step)
    refine bodyPost_ret (v := zItem) (by simp [results, Tryd.results17, go_sem]) rfl ⟨rfl, ?_, ?_⟩
    · exact OnS.ext (OnS.alloc _ _)
    · rw [if_neg he]
      exact h.to (OnS.alloc _ _) trivial

set_option maxHeartbeats 1000000 in
theorem head_nil {rb : Nat} {A : Option Addr} {c : Nat} {items : Int} (w : World) (h : Bx w rb 53 (rdr A 0 c items 0)) :
    Calls Tryd.prog 18 #[.pointer (some ⟨rb, 0, none⟩)] w fun x w' => x = .returned (.tuple #[.int .u8 0, .int .u64 0]) ∧ OnS (· ≠ rb) w w' ∧ Bx w' rb 53 (rdr A 0 c items 20) := by
  have hlt := h.lt
  have c0 := h.cell 0
  have c2 := h.cell 2
  simp only [rdr, List.getElem?_cons_zero, List.getElem?_cons_succ] at c0 c2
  go_enter Tryd.func18, Tryd.ntmps18
  repeat' (first | go_values | go_skip | go_guarded | go_step)
  refine (fail_any w 20 h).mono ?_
  rintro e w' ⟨rfl, hO, hB⟩
  dsimp only
  repeat' (first | go_values | go_skip | go_guarded | go_step)
  go_ret2
  exact ⟨rfl, hO, hB⟩

set_option maxHeartbeats 1000000 in
theorem item_nil {rb : Nat} {A : Option Addr} {c : Nat} (w : World) (d : Int) (h : Bx w rb 53 (rdr A 0 c 0 0)) :
    Calls Tryd.prog 14 #[.pointer (some ⟨rb, 0, none⟩), .int .i64 d] w fun x w' => x = .returned zItem ∧ OnS (· ≠ rb) w w' ∧ Bx w' rb 53 (rdr A 0 c 1 20) := by
  have hlt := h.lt
  have c1 := h.cell 1
  have f1 := h.frozen 1
  simp only [rdr, List.getElem?_cons_zero, List.getElem?_cons_succ] at c1
  go_enter Tryd.func14, Tryd.ntmps14
  repeat' (first | go_values | go_skip | go_guarded | go_step)
  generalize hw1 : World.alloc _ _ = w1
  have hO1 : OnS (· ≠ rb) w w1 := hw1 ▸ (OnS.setCell w ⟨rb, 1, none⟩ _).trans (OnS.ext (OnS.alloc _ _))
  have hB1 : Bx w1 rb 53 (rdr A 0 c 1 0) := hw1 ▸ (h.set 1 (.int .i64 1)).to (OnS.alloc _ _) trivial
  have hR1 : Bx w1 w.heap.size 34 [.int .u8 0, .int .u64 0, .slice none 0 0, .slice none 0 0] := by
    have := Bx.new (w.setCell ⟨rb, 1, none⟩ (.int .i64 1)) [.int .u8 0, .int .u64 0, .slice none 0 0, .slice none 0 0] 34
    rw [hw1] at this
    simpa [World.setCell] using this
  clear hw1 c1 f1
  refine (head_nil w1 hB1).mono ?_
  rintro e w2 ⟨rfl, hO2, hB2⟩
  dsimp only
  have hR2 := hR1.to hO2 (by omega)
  have hz2 := hR2.lt
  have c2 := hB2.cell 2
  have r0 := hR2.cell 0
  have r1 := hR2.cell 1
  have r2 := hR2.cell 2
  have r3 := hR2.cell 3
  have f0 := hR2.frozen 0
  have f1 := hR2.frozen 1
  have f2 := hR2.frozen 2
  have f3 := hR2.frozen 3
  simp only [rdr, List.getElem?_cons_zero, List.getElem?_cons_succ] at c2 r0 r1 r2 r3
  repeat' (first | go_values | go_skip | go_guarded | go_step)
  have hO3 := OnS.set4 w2 w.heap.size (.int .u8 0) (.int .u64 0) (.slice none 0 0) (.slice none 0 0)
  have hR3 := hR2.set4 rfl (.int .u8 0) (.int .u64 0) (.slice none 0 0) (.slice none 0 0)
  generalize World.setCell (World.setCell (World.setCell (World.setCell w2 _ _) _ _) _ _) _ _ = w3 at *
  have q0 := hR3.cell 0
  have q1 := hR3.cell 1
  have q2 := hR3.cell 2
  have q3 := hR3.cell 3
  simp only [List.getElem?_cons_zero, List.getElem?_cons_succ] at q0 q1 q2 q3
  refine bodyPost_ret (v := zItem) (by simp [results, Tryd.results14, go_sem, q0, q1, q2, q3]) rfl ⟨rfl, ?_, ?_⟩
  · exact OnS.since (hO1.trans hO2) hO3 (fun i hi _ => by omega)
  · exact hB2.to hO3 (by omega)

set_option maxHeartbeats 1000000 in
theorem decode_nil {A : Option Addr} {c : Nat} (w : World) :
    Calls Tryd.prog 10 #[.slice A 0 c] w fun x w' => x = .returned (.tuple #[zItem, .slice none 0 0, .int .i64 20]) ∧ Ext w w' := by
  go_enter Tryd.func10, Tryd.ntmps10
  repeat' (first | go_values | go_skip | go_guarded | go_step)
  generalize hw1 : World.alloc (World.alloc w _) _ = w1
  have hE1 : Ext w w1 := hw1 ▸ (OnS.alloc _ _).trans (OnS.alloc _ _)
  have hz1 : w1.heap.size = w.heap.size + 2 := hw1 ▸ by simp
  have hB1 : Bx w1 (w.heap.size + 1) 53 (rdr A 0 c 0 0) := by
    have := Bx.new (w.alloc (.cells #[.int .u8 0, .int .u64 0, .slice none 0 0, .slice none 0 0] 34)) (rdr A 0 c 0 0) 53
    rw [← hw1]
    simpa using this
  have hR1 : Bx w1 w.heap.size 34 [.int .u8 0, .int .u64 0, .slice none 0 0, .slice none 0 0] :=
    hw1 ▸ (Bx.new w [.int .u8 0, .int .u64 0, .slice none 0 0, .slice none 0 0] 34).to (OnS.alloc _ _) trivial
  clear hw1
  refine (item_nil w1 8 hB1).mono ?_
  rintro e w2 ⟨rfl, hO2, hB2⟩
  dsimp only
  have hR2 := hR1.to hO2 (by omega)
  have hz2 := hB2.lt
  have c2 := hB2.cell 2
  have r0 := hR2.cell 0
  have r1 := hR2.cell 1
  have r2 := hR2.cell 2
  have r3 := hR2.cell 3
  have f0 := hR2.frozen 0
  have f1 := hR2.frozen 1
  have f2 := hR2.frozen 2
  have f3 := hR2.frozen 3
  simp only [rdr, List.getElem?_cons_zero, List.getElem?_cons_succ] at c2 r0 r1 r2 r3
  repeat' (first | go_values | go_skip | go_guarded | go_step)
  generalize hw3 : World.alloc w2 _ = w3
  have hE3 : Ext w2 w3 := hw3 ▸ OnS.alloc _ _
  clear hw3 c2 r0 r1 r2 r3 f0 f1 f2 f3
  have hB3 := hB2.to hE3 trivial
  have hR3 := hR2.to hE3 trivial
  have c2 := hB3.cell 2
  have r0 := hR3.cell 0
  have r1 := hR3.cell 1
  have r2 := hR3.cell 2
  have r3 := hR3.cell 3
  have f0 := hR3.frozen 0
  have f1 := hR3.frozen 1
  have f2 := hR3.frozen 2
  have f3 := hR3.frozen 3
  simp only [rdr, List.getElem?_cons_zero, List.getElem?_cons_succ] at c2 r0 r1 r2 r3
  go_region
  have hO4 := OnS.set4 w3 w.heap.size (.int .u8 0) (.int .u64 0) (.slice none 0 0) (.slice none 0 0)
  have hR4 := hR3.set4 rfl (.int .u8 0) (.int .u64 0) (.slice none 0 0) (.slice none 0 0)
  clear r0 r1 r2 r3 f0 f1 f2 f3 c2
  generalize World.setCell (World.setCell (World.setCell (World.setCell w3 _ _) _ _) _ _) _ _ = w4 at *
  have q0 := hR4.cell 0
  have q1 := hR4.cell 1
  have q2 := hR4.cell 2
  have q3 := hR4.cell 3
  simp only [List.getElem?_cons_zero, List.getElem?_cons_succ] at q0 q1 q2 q3
  repeat' (first | go_values | go_skip | go_guarded | go_step)
  refine bodyPost_ret (v := .tuple #[zItem, .slice none 0 0, .int .i64 20]) (by simp [results, Tryd.results10, go_sem, q0, q1, q2, q3]) rfl ⟨rfl, ?_⟩
  exact (OnS.since (OnS.since hE1 (hO2.andThen hE3) (fun i hi _ => by omega)) hO4 (fun i hi _ => by omega)).andThen (OnS.drew w4)
end Go.Proofs.YtljmdeoamkmloaaDoor
