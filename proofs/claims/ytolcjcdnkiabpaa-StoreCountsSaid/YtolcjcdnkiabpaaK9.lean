/- Values of many cells: loaded from, stored into a block that is known whole. Over any program. -/
import Derived.Test.YtolcjcdnkiabpaaK8
import Derived.Laws.CopyRow
import Derived.Laws.Cells
namespace Go.Proofs.Ytolcjcdnkiabpaa
open Go.RowKit

theorem OnS.setRow (w : World) (b : Nat) (cs : Array Value) : OnS (· ≠ b) w (w.setRow b cs) :=
  ⟨rfl, rfl, rfl, by simp, fun k _ hk => setRow_other w b k cs hk⟩
theorem Bx.row {w : World} {b : Nat} {t : TypeId} {cs : List Value} (h : Bx w b t cs) (ds : List Value) : Bx (w.setRow b ds.toArray) b t ds :=
  ⟨setRow_heap w b _ _ t (0, 0) h.blk⟩

theorem OnS.set3 (w : World) (b : Nat) (v0 v1 v2 : Value) : OnS (· ≠ b) w (((w.setCell ⟨b, 0, none⟩ v0).setCell ⟨b, 1, none⟩ v1).setCell ⟨b, 2, none⟩ v2) :=
  ((OnS.setCell w ⟨b, 0, none⟩ v0).trans (OnS.setCell _ ⟨b, 1, none⟩ v1)).trans (OnS.setCell _ ⟨b, 2, none⟩ v2)
theorem OnS.set4 (w : World) (b : Nat) (v0 v1 v2 v3 : Value) : OnS (· ≠ b) w ((((w.setCell ⟨b, 0, none⟩ v0).setCell ⟨b, 1, none⟩ v1).setCell ⟨b, 2, none⟩ v2).setCell ⟨b, 3, none⟩ v3) :=
  (OnS.set3 w b v0 v1 v2).trans (OnS.setCell _ ⟨b, 3, none⟩ v3)
theorem Bx.set4 {w : World} {b : Nat} {t : TypeId} {cs : List Value} (h : Bx w b t cs) (hl : cs.length = 4) (v0 v1 v2 v3 : Value) :
    Bx ((((w.setCell ⟨b, 0, none⟩ v0).setCell ⟨b, 1, none⟩ v1).setCell ⟨b, 2, none⟩ v2).setCell ⟨b, 3, none⟩ v3) b t [v0, v1, v2, v3] := by
  have := (((h.set 0 v0).set 1 v1).set 2 v2).set 3 v3
  match cs, hl with
  | [_, _, _, _], _ => exact this

section
variable {P : Program} {ops : Array Oper} {rest : List Oper} {o : Oper} {a : Act} {Q : Exit → Act → World → Prop} {w : World}

/-- An operation that is carried out and hands back nothing. -/
theorem wl_skip {w' : World} (hw : Region.wanted o (yielded ops a.tmps) = true) (hd : o.dst = none) (hr : (execOp a.eval o).run P w = .ok .skip w')
    (h : wpList P ops Q rest a w') : wpList P ops Q (o :: rest) a w := by
  refine wpList_step fun K hK => ?_
  rw [if_pos hw]
  unfold Oper.wp
  rw [hr]
  refine hK _ _ ?_
  rw [hd]
  exact h

theorem run_store_part {t : TypeId} {b off : Nat} {bt : TypeId} {vs cs : List Value} {v : Value} (hB : Bx w b bt cs) (hv : v.cells = vs.toArray) (hsz : (P.info? t).map (·.size) = some vs.length)
    (hl : off + vs.length ≤ cs.length) (h1 : ∀ u ∈ vs, u.oneCell' = true) :
    (Instr.storeAt t (.pointer (some ⟨b, off, none⟩)) v).run P w = .ok () (w.setRow b (cs.take off ++ vs ++ cs.drop (off + vs.length)).toArray) := by
  obtain ⟨i0, hi0, hz⟩ := Option.map_eq_some_iff.1 hsz
  have h := run_storeCells_at (P := P) b off bt vs 0 cs.toArray w hB.blk (by simpa using hl) h1
  simp only [Nat.add_zero] at h
  simp [Instr.storeAt, Instr.sureAddr, storeVar, sizeOf, typeInfo, hi0, hz, hv, h]

/-- A store of many cells into a block that is known whole. -/
theorem wl_store_part {t : TypeId} {b off : Nat} {bt : TypeId} {vs cs : List Value} {v : Value} {pa x : Operand} (ho : o.op = .store t pa x) (hB : Bx w b bt cs) (hw : Region.wanted o (yielded ops a.tmps) = true) (hd : o.dst = none)
    (hpa : a.eval pa = .pointer (some ⟨b, off, none⟩)) (hx : a.eval x = v) (hv : v.cells = vs.toArray) (hsz : (P.info? t).map (·.size) = some vs.length)
    (hl : off + vs.length ≤ cs.length) (h1 : ∀ u ∈ vs, u.oneCell' = true)
    (k : ∀ w', OnS (· ≠ b) w w' → w'.heap.size = w.heap.size → Bx w' b bt (cs.take off ++ vs ++ cs.drop (off + vs.length)) → wpList P ops Q rest a w') :
    wpList P ops Q (o :: rest) a w := by
  refine wl_skip hw hd (w' := w.setRow b (cs.take off ++ vs ++ cs.drop (off + vs.length)).toArray) ?_ (k _ (OnS.setRow _ _ _) (by simp) (hB.row _))
  unfold execOp
  simp [ho, hpa, hx, run_store_part hB hv hsz hl h1]

theorem run_load_part {t : TypeId} {b off : Nat} {bt : TypeId} {vs cs : List Value} (hB : Bx w b bt cs) (hag : (isAgg t).run P w = .ok true w) (hsz : (P.info? t).map (·.size) = some vs.length)
    (hvs : (cs.drop off).take vs.length = vs) : (loadVar t ⟨b, off, none⟩).run P w = .ok (.agg vs.toArray) w := by
  obtain ⟨i0, hi0, hz⟩ := Option.map_eq_some_iff.1 hsz
  have hc : (loadCells ⟨b, off, none⟩ vs.length).run P w = .ok vs.toArray w := run_loadCells_list (P := P) w ⟨b, off, none⟩ vs (fun j v hj => by
    have e : (⟨b, off, none⟩ : Addr).add j = ⟨b, off + j, none⟩ := by unfold Addr.add; split <;> simp_all
    rw [e, hB.cell]
    rw [← hvs, List.getElem?_take] at hj
    split at hj
    · rw [List.getElem?_drop] at hj; exact hj
    · cases hj)
  simp [loadVar, hag, sizeOf, typeInfo, hi0, hz, hc]
/-- A load of many cells out of a block that is known whole. -/
theorem wl_load_part {t : TypeId} {b off : Nat} {bt : TypeId} {vs cs : List Value} {pa : Operand} (ho : o.op = .load t pa) (hB : Bx w b bt cs) (hw : Region.wanted o (yielded ops a.tmps) = true)
    (hpa : a.eval pa = .pointer (some ⟨b, off, none⟩)) (hag : (isAgg t).run P w = .ok true w) (hsz : (P.info? t).map (·.size) = some vs.length)
    (hvs : (cs.drop off).take vs.length = vs)
    (k : wpList P ops Q rest (a.put o.dst (.agg vs.toArray)) w) :
    wpList P ops Q (o :: rest) a w := by
  refine wl_run hw (v := .agg vs.toArray) (w' := w) ?_ k
  unfold execOp
  simp [ho, hpa, Instr.loadAt, Instr.sureAddr, run_load_part hB hag hsz hvs]

theorem Encs.u8_eq {S : Nat → Prop} {w : World} {cs : List Value} {xs : List Int} (h : Encs S w tU8 cs xs) : cs = xs.map (.int .u8) := by
  obtain ⟨h1, h2⟩ := h
  have hl : cs.length = xs.length := by simpa [tInt] using h1
  refine List.ext_getElem (by simp [hl]) fun i hi hi' => ?_
  have hx : i < xs.length := by omega
  have h3 := (h2 i hx).1
  have e1 : tU8.size = 1 := rfl
  rw [e1, Nat.mul_one, List.take_one, List.head?_drop, List.getElem?_eq_getElem hi] at h3
  simp only [Option.toList_some, List.cons.injEq, and_true] at h3
  rw [h3, List.getElem_map]
theorem SR.cells8 {S : Nat → Prop} {ad : Addr} {n c : Nat} {xs : List Int} (h : SR S w tU8 (some ad) n c xs) : ∀ j v, (xs.map (Value.int .u8))[j]? = some v → w.cell? (ad.add j) = some v := by
  obtain ⟨h1, h2, h3, h3', h4, cs, h5, h6⟩ := h
  intro j v hj
  have hc := h5.u8_eq
  subst hc
  have hlt : j < (xs.map (Value.int .u8)).length := (List.getElem?_eq_some_iff.1 hj).1
  rw [(h6 ad rfl (by simp at hlt; omega)).2.2 j hlt, hj]

/-- copy(d, s): bytes into a block that is known whole. -/
theorem wl_copy8 {S : Nat → Prop} {dT sT e bt : TypeId} {g off m c' n c : Nat} {A : Option Addr} {bs : List Int} {cur : List Value} {d s : Operand}
    (ho : o.op = .call { callee := .builtin .copy, args := #[d, s], argTypes := #[dT, sT] }) (hB : Bx w g bt cur) (H : SR S w tU8 A n c bs) (hu : P.underlying dT = some (.slice e)) (hs : (P.info? e).map (·.size) = some 1)
    (hw : Region.wanted o (yielded ops a.tmps) = true) (hd : a.eval d = .slice (some ⟨g, off, none⟩) m c') (hsv : a.eval s = .slice A n c) (hm : m ≤ n) (h0 : 0 < m) (hfit : off + m ≤ cur.length)
    (k : ∀ w', OnS (· ≠ g) w w' → w'.heap.size = w.heap.size → Bx w' g bt (cur.take off ++ (bs.take m).map (.int .u8) ++ cur.drop (off + m)) → wpList P ops Q rest (a.put o.dst (goInt m)) w') :
    wpList P ops Q (o :: rest) a w := by
  obtain ⟨ad, rfl⟩ := H.addr (by have := H.cap; omega)
  have hlen : ((bs.take m).map (Value.int .u8)).length = m := by simp [H.len]; omega
  have hr := run_copy_row (P := P) w dT sT o.type e g off m c' ad n c cur.toArray bt ((bs.take m).map (.int .u8)) hu hs hB.blk (by rw [hlen]; exact (Nat.min_eq_right hm).symm)
    (fun j v hj => H.cells8 j v (by
      rw [List.map_take, List.getElem?_take] at hj
      split at hj
      · exact hj
      · cases hj)) (by rw [hlen]; simpa using hfit) (fun v hv => by
      obtain ⟨x, _, rfl⟩ := List.mem_map.1 hv
      rfl)
  rw [hlen] at hr
  refine wl_run hw (v := goInt m) (w' := w.setRow g (cur.take off ++ (bs.take m).map (Value.int .u8) ++ cur.drop (off + m)).toArray) ?_ (k _ (OnS.setRow _ _ _) (by simp) (hB.row _))
  unfold execOp
  simp only [ho, resolve, invoke, builtin, Sem.run_bind, Sem.run_pure, Result.andThen_ok, List.map_toArray, List.map_cons, List.map_nil, hd, hsv, hr]
end
end Go.Proofs.Ytolcjcdnkiabpaa
