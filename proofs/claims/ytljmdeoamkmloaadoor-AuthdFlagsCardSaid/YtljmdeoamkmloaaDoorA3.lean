/- authd.Parse of a head alone. -/
import Derived.Test.YtljmdeoamkmloaaDoorA2
import Derived.Test.YtljmdeoamkmloaaDoorK7
import Derived.Deep.LoopGhost
namespace Go.Proofs.YtljmdeoamkmloaaDoor
open Go.RowKit

theorem u32_or8 (a b : Int) (h0 : 0 ≤ a) (h1 : a < 16777216) (h2 : 0 ≤ b) (h3 : b ≤ 255) : bits .or .u32 (a * 256) b = a * 256 + b := by
  obtain ⟨A, rfl⟩ := Int.eq_ofNat_of_zero_le h0
  obtain ⟨B, rfl⟩ := Int.eq_ofNat_of_zero_le h2
  have hx : A * 256 ||| B = A * 256 + B := or_add8 A B (by omega)
  have e : ∀ n : Nat, n < 4294967296 → (BitVec.ofInt 32 (n : Int)).toNat = n := fun n hn => by
    rw [BitVec.toNat_ofInt]; omega
  show IntKind.u32.wrap ((BitVec.ofInt 32 ((A : Int) * 256) ||| BitVec.ofInt 32 (B : Int)).toNat : Int) = _
  rw [BitVec.toNat_or, show ((A : Int) * 256) = ((A * 256 : Nat) : Int) by simp, e (A * 256) (by omega), e B (by omega), hx]
  exact IntWalk.u32_in _ (by omega)

def cnt (l : List Int) : Int := l.foldl (fun a c => a * 256 + c) 0
theorem cnt_snoc (l : List Int) (c : Int) : cnt (l ++ [c]) = cnt l * 256 + c := by simp [cnt]
theorem cnt_range (c3 c2 c1 c0 : Int) (h : ∀ x ∈ [c3, c2, c1, c0], 0 ≤ x ∧ x ≤ 255) (j : Nat) (hj : j ≤ 3) : 0 ≤ cnt ([c3, c2, c1, c0].take j) ∧ cnt ([c3, c2, c1, c0].take j) < 16777216 := by
  have h3 := h c3 (by simp)
  have h2 := h c2 (by simp)
  have h1 := h c1 (by simp)
  match j, hj with
  | 0, _ => simp [cnt]
  | 1, _ => simp [cnt]; omega
  | 2, _ => simp [cnt]; omega
  | 3, _ => simp [cnt]; omega
theorem authL_35 (hash : List Int) (hh : hash.length = 32) (p v h : Bool) (a b : Int) : (authL hash p v h a).set 35 (.int .u32 b) = authL hash p v h b := by
  match hash, hh with
  | [_, _, _, _, _, _, _, _, _, _, _, _, _, _, _, _, _, _, _, _, _, _, _, _, _, _, _, _, _, _, _, _], _ => rfl
theorem authL_pvh (hash : List Int) (hh : hash.length = 32) (p v h p' v' h' : Bool) (a : Int) : (((authL hash p v h a).set 32 (.bool p')).set 33 (.bool v')).set 34 (.bool h') = authL hash p' v' h' a := by
  match hash, hh with
  | [_, _, _, _, _, _, _, _, _, _, _, _, _, _, _, _, _, _, _, _, _, _, _, _, _, _, _, _, _, _, _, _], _ => rfl
theorem authL_get (hash : List Int) (hh : hash.length = 32) (p v h : Bool) (a : Int) : (authL hash p v h a)[32]? = some (.bool p) ∧ (authL hash p v h a)[33]? = some (.bool v) ∧ (authL hash p v h a)[34]? = some (.bool h) ∧ (authL hash p v h a)[35]? = some (.int .u32 a) := by
  match hash, hh with
  | [_, _, _, _, _, _, _, _, _, _, _, _, _, _, _, _, _, _, _, _, _, _, _, _, _, _, _, _, _, _, _, _], _ => exact ⟨rfl, rfl, rfl, rfl⟩
theorem Tryd.size5 : (Tryd.prog.info? 5).map (·.size) = some 1 := by kernel_rfl

theorem authL_len (hash : List Int) (hh : hash.length = 32) (p v h : Bool) (a : Int) : (authL hash p v h a).length = 61 := by simp [authL, hh]
theorem authL_one (hash : List Int) (p v h : Bool) (a : Int) : ∀ u ∈ authL hash p v h a, u.oneCell' = true := by
  intro u hu
  simp only [authL, List.mem_append, List.mem_map, List.mem_cons, List.not_mem_nil, or_false] at hu
  rcases hu with ((⟨x, _, rfl⟩ | (rfl | rfl | rfl | rfl)) | ⟨x, _, rfl⟩) | (rfl | rfl | rfl | rfl | rfl | rfl | rfl | rfl | rfl) <;> rfl
/-- What is said of a head alone. -/
def headErr (f : Int) : Int :=
  if (bits .andNot .u8 f 197 != 0) = true then 60 else if (bits .and .u8 f 64 != 0) = true then 60 else if (bits .and .u8 f 128 != 0) = true then 20 else 0
def headVal (hash : List Int) (f count : Int) : List Value :=
  if headErr f = 0 then authL hash (bits .and .u8 f 1 != 0) (bits .and .u8 f 4 != 0) false count else ZA

set_option maxRecDepth 100000 in
set_option maxHeartbeats 4000000 in
theorem parse_head {S : Nat → Prop} {A : Option Addr} {c : Nat} {hash : List Int} {f c3 c2 c1 c0 : Int} (w : World) (hh : hash.length = 32) (hcr : ∀ x ∈ [c3, c2, c1, c0], 0 ≤ x ∧ x ≤ 255) (H : SR S w tU8 A 37 c (hash ++ [f, c3, c2, c1, c0])) :
    Calls Tryd.prog 7 #[.slice A 37 c] w fun x w' => x = .returned (.tuple #[.agg (headVal hash f (cnt [c3, c2, c1, c0])).toArray, .int .i64 (headErr f)]) ∧ Ext w w' := by
  obtain ⟨ad, xf, ef, hif, hcf, hsf, hf0, hf1⟩ := H.idx8 Tryd.underlying22 Tryd.size5 .i64 32 32 rfl (by omega)
  have hxf : xf = f := by
    rw [← ef, List.getD_eq_getElem?_getD, List.getElem?_append_right (by omega), hh]; rfl
  subst hxf
  clear ef
  go_enter Tryd.func7, Tryd.ntmps7
  iterate 6 (first | go_values | go_skip | go_guarded | go_step)
  generalize hw1 : World.alloc w _ = w1
  have hE1 : Ext w w1 := hw1 ▸ OnS.alloc _ _
  have hR1 : Bx w1 w.heap.size 36 ZA := hw1 ▸ Bx.new w ZA 36
  have hz1 : w1.heap.size = w.heap.size + 1 := hw1 ▸ by simp
  clear hw1
  iterate 8 (first | go_values | go_skip | go_guarded | go_step)
  iterate 2 (first | go_values | go_skip | go_guarded | go_step)
  generalize hw2 : World.alloc w1 _ = w2
  have hE2 : Ext w1 w2 := hw2 ▸ OnS.alloc _ _
  have hR2 : Bx w2 w.heap.size 36 ZA := hR1.to hE2 trivial
  have hB2 : Bx w2 (w.heap.size + 1) 36 ZA := hz1 ▸ hw2 ▸ Bx.new w1 ZA 36
  clear hw2
  have hcf2 := (hE1.trans hE2).cell hcf trivial
  have hz2 := hB2.lt
  iterate 40 (first | go_values | go_skip | go_guarded | go_step)
  by_cases hbad : bits .andNot .u8 xf 197 = 0
  case neg =>
    have hb : (bits .andNot .u8 xf 197 != 0) = true := by simpa using hbad
    repeat' ((fail_if_success (with_reducible refine wl_skip (o := ⟨none, .store 36 _ _, _, _, _, _⟩) (w' := ?_) ?_ ?_ ?_ ?_)); first | go_values | go_skip | go_guarded | go_step)
    refine wl_store_part (vs := ZA) rfl hR2 rfl rfl rfl rfl rfl rfl (by decide) (by decide) ?_
    intro w3 hO3 hz3 hR3
    have hR4 : Bx w3 w.heap.size 36 ZA := hR3
    clear hR3
    repeat' (first | go_values | go_skip | go_guarded | go_step)
    have hld := run_load_part (P := Tryd.prog) (t := 36) (off := 0) (vs := ZA) hR4 (by kernel_rfl) rfl rfl
    refine bodyPost_ret (v := .tuple #[.agg ZA.toArray, .int .i64 60]) (by simp [results, Tryd.results7, asAddr, hld]) rfl ⟨?_, OnS.since (hE1.trans hE2) hO3 (fun i hi _ => by omega)⟩
    have he : headErr xf = 60 := by unfold headErr; rw [if_pos hb]
    unfold headVal
    rw [he, if_neg (by decide)]
  have hb : (bits .andNot .u8 xf 197 != 0) = false := by simpa using hbad
  clear hbad
  repeat' ((fail_if_success (with_reducible refine wl_run (o := ⟨_, .call { callee := .builtin .copy, args := _, argTypes := _ }, _, _, _, _⟩) (w' := ?_) (v := ?_) ?_ ?_ ?_)); first | go_values | go_skip | go_guarded | go_step)
  have H0 := H.weaken (S' := fun k => k < w.heap.size) (by decide) (fun k hk _ => hk)
  have hE12 := hE1.trans hE2
  refine wl_copy8 (g := w.heap.size + 1) (off := 0) (m := 32) rfl hB2 (H0.mono (OnS.ext hE12)) Tryd.underlying22 Tryd.size5 rfl rfl rfl (by decide) (by decide) (by decide) ?_
  intro w3 hO3 hz3 hB3
  have hB3 : Bx w3 (w.heap.size + 1) 36 (authL hash false false false 0) := by
    have e : List.take 32 (hash ++ [xf, c3, c2, c1, c0]) = hash := by rw [← hh, List.take_left]
    rw [e] at hB3
    have e2 : List.take 0 ZA ++ hash.map (Value.int .u8) ++ List.drop (0 + 32) ZA = authL hash false false false 0 := by
      simp only [List.take_zero, List.nil_append, authL, List.append_assoc]
      rfl
    rwa [e2] at hB3
  have hR3 := hR2.to hO3 (by omega)
  have hO03 : OnS (· < w.heap.size) w w3 := OnS.since (OnS.ext hE12) hO3 (fun i _ h => by omega)
  have H3 := H0.mono hO03
  have hcf3 := hO03.cell hcf (World.block_lt_of_cell? w _ hcf)
  clear hcf2
  have hz4 := hB3.lt
  have cell32 : w3.cell? ⟨w.heap.size + 1, 32, none⟩ = some (.bool false) := by
    rw [hB3.cell]; simp [authL, hh]
  have cell33 : w3.cell? ⟨w.heap.size + 1, 33, none⟩ = some (.bool false) := by
    rw [hB3.cell]; simp [authL, hh]
  have cell34 : w3.cell? ⟨w.heap.size + 1, 34, none⟩ = some (.bool false) := by
    rw [hB3.cell]; simp [authL, hh]
  have fr32 := hB3.frozen 32
  have fr33 := hB3.frozen 33
  have fr34 := hB3.frozen 34
  obtain ⟨A', n', c', hcut, HC, hn1, hn2⟩ := H3.cutLH Tryd.underlying22 Tryd.size5 .i64 .i64 33 37 33 37 rfl rfl (by decide) (by decide)
  obtain rfl : n' = 4 := by omega
  have eC : List.drop 33 (List.take 37 (hash ++ [xf, c3, c2, c1, c0])) = [c3, c2, c1, c0] := by
    rw [List.take_of_length_le (by simp [hh]), show (33 : Nat) = hash.length + 1 by omega, List.drop_append]
    simp
  rw [eC] at HC
  obtain ⟨bp, hbp⟩ : ∃ b, (bits .and .u8 xf 1 != 0) = b := ⟨_, rfl⟩
  obtain ⟨bv, hbv⟩ : ∃ b, (bits .and .u8 xf 4 != 0) = b := ⟨_, rfl⟩
  obtain ⟨bh, hbh⟩ : ∃ b, (bits .and .u8 xf 64 != 0) = b := ⟨_, rfl⟩
  obtain ⟨be, hbe⟩ : ∃ b, (bits .and .u8 xf 128 != 0) = b := ⟨_, rfl⟩
  clear eC
  repeat' (first | go_values | go_skip | go_guarded | go_step)
  have hO4 : OnS (· ≠ w.heap.size + 1) w3 (((w3.setCell ⟨w.heap.size + 1, 32, none⟩ (.bool bp)).setCell ⟨w.heap.size + 1, 33, none⟩ (.bool bv)).setCell ⟨w.heap.size + 1, 34, none⟩ (.bool bh)) :=
    ((OnS.setCell _ ⟨w.heap.size + 1, 32, none⟩ _).trans (OnS.setCell _ ⟨w.heap.size + 1, 33, none⟩ _)).trans (OnS.setCell _ ⟨w.heap.size + 1, 34, none⟩ _)
  have hB4 := ((hB3.set 32 (.bool bp)).set 33 (.bool bv)).set 34 (.bool bh)
  rw [authL_pvh hash hh] at hB4
  generalize World.setCell (World.setCell (World.setCell w3 _ _) _ _) _ _ = w4 at *
  clear cell32 cell33 cell34 fr32 fr33 fr34
  have hO04 : OnS (· < w.heap.size) w w4 := OnS.since hO03 hO4 (fun i _ h => by omega)
  have hR4 := hR3.to hO4 (by omega)
  have HC4 := HC.mono (hO4.weaken (fun k _ hk => by omega))
  have hz5 := hB4.lt
  go_loopg [7, 45] 4 (fun k _ v45 wr => ∃ j : Nat, j + k = 4 ∧ v45 = .int .i64 j ∧ OnS (· ≠ w.heap.size + 1) w4 wr ∧ Bx wr (w.heap.size + 1) 36 (authL hash bp bv bh (cnt ([c3, c2, c1, c0].take j))))
  case atStart => exact ⟨0, rfl, rfl, OnS.refl _ _, hB4⟩
  case round =>
    obtain ⟨j, hj, rfl, hOr, hBr⟩ := hrel
    have hzr := hBr.lt
    obtain ⟨_, _, _, cell35⟩ := authL_get hash hh bp bv bh (cnt ([c3, c2, c1, c0].take j))
    rw [← hBr.cell] at cell35
    have fr35 := hBr.frozen 35
    by_cases h4 : j < 4
    · obtain ⟨adj, x, ex, hix, hcx, hsx, hx0, hx1⟩ := (HC4.mono (hOr.weaken (S' := fun k => k < w.heap.size) (fun k _ hk => by omega))).idx8 Tryd.underlying22 Tryd.size5 .i64 j j rfl h4
      have hx : [c3, c2, c1, c0].getD j 0 = x := ex
      have hnx : cnt ([c3, c2, c1, c0].take (j + 1)) = cnt ([c3, c2, c1, c0].take j) * 256 + x := by
        rw [List.take_add_one, ← cnt_snoc, ← hx, List.getD_eq_getElem?_getD, List.getElem?_eq_getElem (by simpa using h4)]
        rfl
      have hgb := cnt_range c3 c2 c1 c0 hcr j (by omega)
      obtain ⟨g, hg⟩ : ∃ g, cnt ([c3, c2, c1, c0].take j) = g := ⟨_, rfl⟩
      rw [hg] at hnx hgb cell35
      have HOR := u32_or8 g x hgb.1 hgb.2 hx0 hx1
      have HNX := Lib.hid hnx
      clear hnx ex hx hg
      have hset := fun v => (hBr.set 35 (.int .u32 v))
      have HSET := Lib.hid hset
      clear hset
      repeat' (first | go_values | go_skip | go_guarded | go_step)
      go_roundg (3 - j)
      case rel =>
        refine ⟨j + 1, by omega, by simp, hOr.trans (OnS.setCell wr ⟨w.heap.size + 1, 35, none⟩ _), ?_⟩
        rw [HNX.out, ← authL_35 hash hh bp bv bh (cnt ([c3, c2, c1, c0].take j))]
        exact HSET.out _
      case measure => omega
    · obtain rfl : j = 4 := by omega
      obtain ⟨A5, n5, c5, hc5, HC5, hn51, hn52⟩ := H3.cutL Tryd.underlying22 Tryd.size5 .i64 37 37 rfl (by decide)
      obtain rfl : n5 = 0 := by omega
      obtain ⟨_, _, cell34, _⟩ := authL_get hash hh bp bv bh (cnt ([c3, c2, c1, c0].take 4))
      rw [← hBr.cell] at cell34
      have hRr := hR4.to hOr (by omega)
      have hOf : OnS (· < w.heap.size) w wr := OnS.since hO04 hOr (fun i _ h => by omega)
      clear HC5 hn51 hn52 cell35 fr35
      cases bh
      case true =>
        repeat' ((fail_if_success (with_reducible refine wl_skip (o := ⟨none, .store 36 _ _, _, _, _, _⟩) (w' := ?_) ?_ ?_ ?_ ?_)); first | go_values | go_skip | go_guarded | go_step)
        refine wl_store_part (vs := ZA) rfl hRr rfl rfl rfl rfl rfl rfl (by decide) (by decide) ?_
        intro w5 hO5 hz5 hR5
        have hR5 : Bx w5 w.heap.size 36 ZA := hR5
        repeat' (first | go_values | go_skip | go_guarded | go_step)
        have hld := run_load_part (P := Tryd.prog) (t := 36) (off := 0) (vs := ZA) hR5 (by kernel_rfl) rfl rfl
        refine bodyPost_ret (v := .tuple #[.agg ZA.toArray, .int .i64 60]) (by simp [results, Tryd.results7, asAddr, hld]) rfl ⟨?_, OnS.since (hOf.old (fun k hk => hk)) hO5 (fun i hi _ => by omega)⟩
        have he : headErr xf = 60 := by unfold headErr; rw [if_neg (by simp [hb]), if_pos hbh]
        unfold headVal
        rw [he, if_neg (by decide)]
      case false =>
        cases be
        case true =>
          repeat' (first | go_values | go_skip | go_guarded | go_step)
          refine (decode_nil wr).mono ?_
          rintro e w5 ⟨rfl, hE5⟩
          dsimp only
          repeat' ((fail_if_success (with_reducible refine wl_skip (o := ⟨none, .store 34 _ _, _, _, _, _⟩) (w' := ?_) ?_ ?_ ?_ ?_)); first | go_values | go_skip | go_guarded | go_step)
          refine wl_store_part (vs := [.int .u8 0, .int .u64 0, .slice none 0 0, .slice none 0 0]) (off := 57) rfl (hBr.to hE5 trivial) rfl rfl rfl rfl rfl rfl (by rw [authL_len hash hh]; decide) (by decide) ?_
          intro w6 hO6 hz6 hB6
          have hR6 := (hRr.to hE5 trivial).to hO6 (by omega)
          clear hB6
          repeat' ((fail_if_success (with_reducible refine wl_skip (o := ⟨none, .store 36 _ _, _, _, _, _⟩) (w' := ?_) ?_ ?_ ?_ ?_)); first | go_values | go_skip | go_guarded | go_step)
          refine wl_store_part (vs := ZA) rfl hR6 rfl rfl rfl rfl rfl rfl (by decide) (by decide) ?_
          intro w7 hO7 hz7 hR7
          have hR7 : Bx w7 w.heap.size 36 ZA := hR7
          repeat' (first | go_values | go_skip | go_guarded | go_step)
          have hld := run_load_part (P := Tryd.prog) (t := 36) (off := 0) (vs := ZA) hR7 (by kernel_rfl) rfl rfl
          refine bodyPost_ret (v := .tuple #[.agg ZA.toArray, .int .i64 20]) (by simp [results, Tryd.results7, asAddr, hld]) rfl ⟨?_, ?_⟩
          · have he : headErr xf = 20 := by unfold headErr; rw [if_neg (by simp [hb]), if_neg (by simp [hbh]), if_pos hbe]
            unfold headVal
            rw [he, if_neg (by decide)]
          · exact OnS.since (OnS.since ((hOf.old (fun k hk => hk)).trans hE5) hO6 (fun i hi _ => by omega)) hO7 (fun i hi _ => by omega)
        case false =>
          repeat' ((fail_if_success (with_reducible refine wl_run (o := ⟨_, .load 36 _, _, _, _, _⟩) (w' := ?_) (v := ?_) ?_ ?_ ?_)); first | go_values | go_skip | go_guarded | go_step)
          have hL := authL_len hash hh bp bv false (cnt [c3, c2, c1, c0])
          have hBr : Bx wr (w.heap.size + 1) 36 (authL hash bp bv false (cnt [c3, c2, c1, c0])) := hBr
          refine wl_load_part (vs := authL hash bp bv false (cnt [c3, c2, c1, c0])) (off := 0) rfl hBr rfl rfl (by kernel_rfl) (by rw [hL]; rfl) (by rw [List.drop_zero, List.take_length]) ?_
          refine wl_store_part (vs := authL hash bp bv false (cnt [c3, c2, c1, c0])) (off := 0) rfl hRr rfl rfl rfl rfl rfl (by rw [hL]; rfl) (by rw [hL]; decide) (authL_one _ _ _ _ _) ?_
          intro w7 hO7 hz7 hR7
          have hR7 : Bx w7 w.heap.size 36 (authL hash bp bv false (cnt [c3, c2, c1, c0])) := by
            have e : List.take 0 ZA ++ authL hash bp bv false (cnt [c3, c2, c1, c0]) ++ List.drop (0 + (authL hash bp bv false (cnt [c3, c2, c1, c0])).length) ZA = authL hash bp bv false (cnt [c3, c2, c1, c0]) := by
              rw [hL, List.take_zero, List.nil_append, List.drop_of_length_le (by decide), List.append_nil]
            rwa [e] at hR7
          have hld := run_load_part (P := Tryd.prog) (t := 36) (off := 0) (vs := authL hash bp bv false (cnt [c3, c2, c1, c0])) hR7 (by kernel_rfl) (by rw [hL]; rfl) (by rw [List.drop_zero, List.take_length])
          have he : headErr xf = 0 := by unfold headErr; rw [if_neg (by simp [hb]), if_neg (by simp [hbh]), if_neg (by simp [hbe])]
          have hv : headVal hash xf (cnt [c3, c2, c1, c0]) = authL hash bp bv false (cnt [c3, c2, c1, c0]) := by
            unfold headVal
            rw [if_pos he, hbp, hbv]
          obtain ⟨AV, hAV⟩ : ∃ AV, Value.agg (authL hash bp bv false (cnt [c3, c2, c1, c0])).toArray = AV := ⟨_, rfl⟩
          rw [hAV] at hld ⊢
          have HAV := Lib.hid (And.intro he (And.intro hv hAV))
          clear he hv hAV
          repeat' (first | go_values | go_skip | go_guarded | go_step)
          refine bodyPost_ret (v := .tuple #[AV, .int .i64 0]) (by simp [results, Tryd.results7, asAddr, hld]) rfl ⟨by rw [HAV.out.1, HAV.out.2.1, HAV.out.2.2], OnS.since (hOf.old (fun k hk => hk)) hO7 (fun i hi _ => by omega)⟩
end Go.Proofs.YtljmdeoamkmloaaDoor
