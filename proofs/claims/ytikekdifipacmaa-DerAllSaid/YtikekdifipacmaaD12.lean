import Derived.Test.YtikekdifipacmaaD11
namespace Go.Proofs.Ytikekdifipacmaa
open Go.RowKit

set_option maxHeartbeats 1000000 in
theorem int05 {b tt : Nat} (w : World) (h : Bx w b tt [.int .u8 0, .int .u8 5]) :
    Calls Try.prog 20 #[.agg #[.int .u8 2, .slice (some ⟨b, 0, none⟩) 2 2]] w fun e w' => (∃ A n c, e = .returned (.tuple #[.slice A n c, .int .i64 30])) ∧ Ext w w' := by
  have hlt := h.lt
  have hE : Ext w (w.alloc (.cells #[.int .u8 2, .slice (some ⟨b, 0, none⟩) 2 2] 28)) := OnS.alloc _ _
  have h' := h.to hE trivial
  have c0 := h'.cell 0
  have c1 := h'.cell 1
  simp only [List.getElem?_cons_zero, List.getElem?_cons_succ] at c0 c1
  clear h h'
  go_enter Try.func20, Try.ntmps20
  repeat' go_step
  go_ret2
  exact ⟨⟨_, _, _, rfl⟩, hE⟩

theorem Try.info31 : (Try.prog.info? 31).map (fun i => (i.zero, i.size, i.bytes)) = some (some (.int .u64 0), 1, 8) := by kernel_rfl

theorem OwnR.some {α : Type} {S : Nat → Prop} {w : World} {base : Nat} {e : TypeId} {T : Ty α} {v : Value} {xs : List α} (h : OwnR S w base e T v xs) (hx : 0 < xs.length) : ∃ g c, v = .slice (.some ⟨g, 0, none⟩) xs.length c := by
  obtain ⟨cs, h1, h2⟩ := h.row
  rcases h1.2 with ⟨rfl, h3⟩ | ⟨g, cap, cur, rfl, _⟩
  · omega
  · exact ⟨g, cap, rfl⟩

theorem lit64 (w : World) (x : Int) (h : 0 ≤ x ∧ x ≤ 18446744073709551615) : SR (fun _ => True) (w.alloc (.cells #[.int .u64 x] 31)) tU64 (.some ⟨w.heap.size, 0, none⟩) 1 1 [x] :=
  SR.ofBx (Bx.new w [.int .u64 x] 31) (Encs.single (T := tU64) ⟨rfl, by simpa [IntKind.min, IntKind.signed] using h.1, by simpa [IntKind.max, IntKind.signed, IntKind.bits] using h.2⟩) trivial 1 rfl (by decide) (by decide)

set_option maxHeartbeats 4000000 in
theorem oid840 {b tt : Nat} (w : World) (h : Bx w b tt [.int .u8 42, .int .u8 134, .int .u8 72]) :
    Calls Try.prog 21 #[.agg #[.int .u8 6, .slice (some ⟨b, 0, none⟩) 3 3]] w fun e w' => ∃ A c, e = .returned (.tuple #[.slice A 3 c, .int .i64 0]) ∧ Ext w w' ∧ SR (fun _ => True) w' tU64 A 3 c [1, 2, 840] := by
  have hlt := h.lt
  go_enter Try.func21, Try.ntmps21
  iterate 5 go_step
  generalize hw1 : World.alloc w _ = w1
  have hE : Ext w w1 := hw1 ▸ OnS.alloc w _
  have hB : Bx w1 w.heap.size 28 [.int .u8 6, .slice (some ⟨b, 0, none⟩) 3 3] := hw1 ▸ Bx.new w [.int .u8 6, .slice (some ⟨b, 0, none⟩) 3 3] 28
  have h1 := h.to hE trivial
  clear hw1 h
  have b0 := hB.cell 0
  have b1 := hB.cell 1
  have c0 := h1.cell 0
  have c1 := h1.cell 1
  have c2 := h1.cell 2
  simp only [List.getElem?_cons_zero, List.getElem?_cons_succ] at b0 b1 c0 c1 c2
  have hz := hB.lt
  have hq := fun a l c w => Lib.run_eql_slice_nil (P := Try.prog) w 54 31 a l c 0 0 Try.underlying54
  have k1 : bits .or .u64 0 (IntKind.u64.wrap (bits .and .u8 42 127)) = 42 := by decide
  have k2 : bits .or .u64 0 (IntKind.u64.wrap (bits .and .u8 134 127)) = 6 := by decide
  have k3 : bits .or .u64 768 (IntKind.u64.wrap (bits .and .u8 72 127)) = 840 := by decide
  repeat' go_step
  refine wp_loop_rounds 4 ?_
  simp only [Code.rounds]
  repeat' (first | (refine wl_append (T := tU64) (xs := []) (base := w.heap.size) rfl (OwnR.nil (fun _ => False) _ _ _ _) (lit64 w1 1 (by decide)) (fun _ h => h.flat) Try.underlying54 Try.info31 rfl (by decide) rfl rfl rfl ?_ (by decide) (by decide) (fun _ h => h.elim) ?_) | go_step)
  · simp; omega
  intro v w2 hO hg hat _
  obtain ⟨g, c, rfl⟩ := hO.some (by simp)
  have hE2 : OnS (· < w1.heap.size) w1 w2 := OnS.since (OnS.ext (OnS.alloc w1 (.cells #[.int .u64 1] 31))) (OnS.grown (S := (· < w1.heap.size)) hg (by simp [Value.ownBlock])) (fun i _ h => h)
  have hl2 := hO.lt g rfl
  have hg2 : w1.heap.size ≤ g := by
    rcases hat with h | h <;> simp [Value.ownBlock] at h
    omega
  have h2 := h1.to hE2 (by omega)
  have c0 := h2.cell 0
  have c1 := h2.cell 1
  have c2 := h2.cell 2
  simp only [List.getElem?_cons_zero, List.getElem?_cons_succ] at c0 c1 c2
  simp only [List.nil_append, List.length_cons, List.length_nil, Nat.zero_add] at hO ⊢
  clear hg hat
  repeat' (first | (refine wl_append (T := tU64) (base := w.heap.size) rfl (hO.ext (OnS.alloc _ _)) (lit64 w2 2 (by decide)) (fun _ h => h.flat) Try.underlying54 Try.info31 rfl (by decide) rfl rfl rfl ?_ (by decide) (by decide) (fun _ h => h.elim) ?_) | go_step)
  · simp; omega
  intro v w3 hO' hg hat _
  have hE3 : OnS (· < w1.heap.size) w2 w3 := OnS.since (OnS.ext (OnS.alloc w2 (.cells #[.int .u64 2] 31))) (OnS.grown (S := (· < w1.heap.size)) hg (by intro k hk; simp [Value.ownBlock]; omega)) (fun i _ h => h)
  obtain ⟨g3, c3, rfl⟩ := hO'.some (by simp)
  have hl3 := hO'.lt g3 rfl
  have hz12 := hE2.size
  have hz23 := hE3.size
  have hg3 : w1.heap.size ≤ g3 := by
    rcases hat with h | h <;> simp [Value.ownBlock] at h <;> omega
  clear c0 c1 c2
  have h3 := h2.to hE3 (by omega)
  have c0 := h3.cell 0
  have c1 := h3.cell 1
  have c2 := h3.cell 2
  simp only [List.getElem?_cons_zero, List.getElem?_cons_succ] at c0 c1 c2
  simp only [List.cons_append, List.nil_append, List.length_cons, List.length_nil, Nat.zero_add] at hO' ⊢
  clear hg hat hO
  repeat' (first | (refine wl_append (T := tU64) (base := w.heap.size) rfl (hO'.ext (OnS.alloc _ _)) (lit64 w3 840 (by decide)) (fun _ h => h.flat) Try.underlying54 Try.info31 rfl (by decide) rfl rfl rfl ?_ (by decide) (by decide) (fun _ h => h.elim) ?_) | go_step)
  · simp; omega
  intro v w4 hO hg hat _
  have hE4 : OnS (· < w1.heap.size) w3 w4 := OnS.since (OnS.ext (OnS.alloc w3 (.cells #[.int .u64 840] 31))) (OnS.grown (S := (· < w1.heap.size)) hg (by intro k hk; simp [Value.ownBlock]; omega)) (fun i _ h => h)
  obtain ⟨A4, c4, rfl, hR⟩ := hO.read (S' := fun _ => True) (fun _ _ => trivial) (fun _ _ _ => trivial) (by decide) (by decide)
  simp only [List.cons_append, List.nil_append, List.length_cons, List.length_nil, Nat.zero_add] at hO hR ⊢
  clear hg hat hO' c0 c1 c2
  repeat' go_step
  go_ret2
  exact ⟨A4, c4, rfl, OnS.since hE (OnS.since (OnS.since hE2 hE3 (fun i _ h => h)) hE4 (fun i _ h => h)) (fun i hi _ => by omega), hR⟩
end Go.Proofs.Ytikekdifipacmaa
