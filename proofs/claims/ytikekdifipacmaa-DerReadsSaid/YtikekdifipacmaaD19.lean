import Derived.Test.YtikekdifipacmaaD18
namespace Go.Proofs.Ytikekdifipacmaa
open Go.RowKit

set_option maxRecDepth 100000 in
set_option maxHeartbeats 8000000 in
theorem reads_any {S : Nat → Prop} {A : Option Addr} {n c : Nat} {b : List Int} (w : World) (H : SR S w tU8 A n c b) : Calls Try.prog 5 #[.slice A n c] w fun e w' => e = .returned (.bool true) ∧ Ext w w' := by
  have hl := H.len
  have hsm := H.small
  by_cases h6 : 6000 < n
  · go_enter Try.func5, Try.ntmps5
    repeat' go_step
    refine (awake_any w).mono ?_
    rintro x w1 ⟨rfl, hE1⟩
    dsimp only
    repeat' go_step
    go_ret
    exact ⟨rfl, hE1⟩
  · go_enter Try.func5, Try.ntmps5
    repeat' go_step
    refine (awake_any w).mono ?_
    rintro x w1 ⟨rfl, hE1⟩
    dsimp only
    have HO0 := fun W => OwnR.empty (fun _ => False) (Bx.new W [] 5) (Nat.le_refl _) tU8
    have H1 := H.mono (OnS.ext (hE1.trans (OnS.alloc w1 (.cells #[] 5))))
    repeat' (first | (refine wl_append rfl (HO0 w1) H1 (fun _ h => h.flat) Try.underlying25 Try.info5 rfl (by decide) rfl rfl rfl ?_ ?_ ?_ (by simp) ?_) | go_step)
    · simp
    · simp [tInt]; omega
    · simp; omega
    intro v' w2 HO hg hat _
    have hE2 : Ext w1 w2 := OnS.since (OnS.alloc w1 (.cells #[] 5)) (OnS.grown (S := fun k => k ≠ w1.heap.size) hg (by simp [Value.ownBlock])) (fun i hi _ => by omega)
    obtain ⟨A2, c2, rfl, hR2⟩ := HO.read (S' := fun _ => True) (fun _ _ => trivial) (fun _ _ _ => trivial) (by simp [tInt]; omega) (by simp; omega)
    simp only [List.nil_append, hl] at hR2 ⊢
    have hE12 := hE1.trans hE2
    have hH2 := H.mono (OnS.ext hE12)
    clear HO hg hat HO0 H1 hE1 hE2
    repeat' go_step
    refine (read_any w2 hR2).mono ?_
    generalize hq : derRead b = q
    obtain ⟨t, bd, rs, er⟩ := q
    have HQ := Lib.hid hq
    clear hq
    rintro x w3 ⟨_, rfl, hE3, A3, n3, c3, A4, n4, c4, rfl, hR3, hR4⟩
    dsimp only at hR3 hR4 ⊢
    have hR2 := hR2.mono (OnS.ext hE3)
    have hH2 := hH2.mono (OnS.ext hE3)
    have hE13 := hE12.trans hE3
    clear hE3 hE12
    repeat' go_step
    generalize hw4 : World.alloc w3 _ = w4
    have hE4 : Ext w3 w4 := hw4 ▸ OnS.alloc w3 _
    have hT4 : Bx w4 w3.heap.size 28 [.int .u8 t, .slice A3 n3 c3] := hw4 ▸ Bx.new w3 [.int .u8 t, .slice A3 n3 c3] 28
    clear hw4
    have hR2 := hR2.mono (OnS.ext hE4)
    have hH2 := hH2.mono (OnS.ext hE4)
    have hR3 := hR3.mono (OnS.ext hE4)
    have hR4 := hR4.mono (OnS.ext hE4)
    have hE14 := hE13.trans hE4
    clear hE4 hE13
    repeat' go_step
    refine (refRead_any w4 hH2).mono ?_
    rw [HQ.out]
    rintro x w5 ⟨_, rfl, hE5, A5, n5, c5, A6, n6, c6, rfl, hR5, hR6⟩
    dsimp only at hR5 hR6 ⊢
    have hR2 := hR2.mono (OnS.ext hE5)
    have hH2 := hH2.mono (OnS.ext hE5)
    have hR3 := hR3.mono (OnS.ext hE5)
    have hR4 := hR4.mono (OnS.ext hE5)
    have hT4 := hT4.to hE5 trivial
    have hE15 := hE14.trans hE5
    clear hE5 hE14
    repeat' go_step
    generalize hw6 : World.alloc w5 _ = w6
    have hE6 : Ext w5 w6 := hw6 ▸ OnS.alloc w5 _
    have hT6 : Bx w6 w5.heap.size 28 [.int .u8 t, .slice A5 n5 c5] := hw6 ▸ Bx.new w5 [.int .u8 t, .slice A5 n5 c5] 28
    clear hw6
    have hR2 := hR2.mono (OnS.ext hE6)
    have hH2 := hH2.mono (OnS.ext hE6)
    have hR3 := hR3.mono (OnS.ext hE6)
    have hR4 := hR4.mono (OnS.ext hE6)
    have hR5 := hR5.mono (OnS.ext hE6)
    have hR6 := hR6.mono (OnS.ext hE6)
    have hT4 := hT4.to hE6 trivial
    have hE16 := hE15.trans hE6
    clear hE6 hE15
    repeat' go_step
    refine (list_any w6 hR2).mono ?_
    rintro x w7 ⟨A7, n7, c7, rfl, hE7, hR7⟩
    dsimp only
    have hH2 := hH2.mono (OnS.ext hE7)
    have hT4 := hT4.to hE7 trivial
    have hT6 := hT6.to hE7 trivial
    generalize hl7 : listOf (derAll b) = L at hR7 ⊢
    obtain ⟨ls, le⟩ := L
    have HL := Lib.hid hl7
    clear hl7
    dsimp only at hR7 ⊢
    repeat' go_step
    refine (reflist_any w7 hH2).mono ?_
    rw [HL.out]
    rintro x w8 ⟨A8, n8, c8, rfl, hE8, hR8⟩
    dsimp only at hR8 ⊢
    have hE78 := hE7.trans hE8
    have hR7 := hR7.mono (OnS.ext hE8)
    have hT4 := hT4.to hE8 trivial
    have hT6 := hT6.to hE8 trivial
    have hH2 := hH2.mono (OnS.ext hE8)
    have hR2 := hR2.mono (OnS.ext hE78)
    have hR3 := hR3.mono (OnS.ext hE78)
    have hR4 := hR4.mono (OnS.ext hE78)
    have hR5 := hR5.mono (OnS.ext hE78)
    have hR6 := hR6.mono (OnS.ext hE78)
    have hE18 := hE16.trans hE78
    clear hE78 hE16 hE7 hE8
    have t40 := hT4.cell 0
    have t41 := hT4.cell 1
    have t60 := hT6.cell 0
    have t61 := hT6.cell 1
    simp only [List.getElem?_cons_zero, List.getElem?_cons_succ] at t40 t41 t60 t61
    repeat' go_step
    refine (same_any t t w8 hR3 hR5).mono ?_
    rintro x w9 ⟨rfl, hE9⟩
    simp only [beq_self_eq_true, Bool.and_self]
    have hs4 := (hR4.mono (OnS.ext hE9)).str (P := Try.prog) Try.underlying25 Try.underlying5 Try.underlying9
    have hs6 := (hR6.mono (OnS.ext hE9)).str (P := Try.prog) Try.underlying25 Try.underlying5 Try.underlying9
    repeat' go_step
    refine (sameLists_any w9 (hR7.mono (OnS.ext hE9)) (hR8.mono (OnS.ext hE9))).mono ?_
    rintro x w10 ⟨rfl, hE10⟩
    simp only [beq_self_eq_true]
    clear hs4 hs6
    have hE910 := hE9.trans hE10
    have hR2 := hR2.mono (OnS.ext hE910)
    have hH2 := hH2.mono (OnS.ext hE910)
    have hR5 := hR5.mono (OnS.ext hE910)
    have hR6l := hR6.len
    have hT6 := hT6.to hE910 trivial
    have hE110 := hE18.trans hE910
    have hs2 := hR2.str (P := Try.prog) Try.underlying25 Try.underlying5 Try.underlying9
    have hsH := hH2.str (P := Try.prog) Try.underlying25 Try.underlying5 Try.underlying9
    clear t40 t41 t60 t61 hT4 hE9 hE10 hE910 hE18 hR3 hR4 hR6 hR7 hR8
    repeat' go_step
    refine (seq_any w10 hR2).mono ?_
    have hds : derSeq b = if er ≠ 0 then ([], er) else if t ≠ 48 ∨ rs ≠ [] then ([], 30) else listOf (derAll bd) := by unfold derSeq; rw [HQ.out]
    rintro x w11 ⟨A9, n9, c9, rfl, hE11, hR9⟩
    dsimp only
    have hR5 := hR5.mono (OnS.ext hE11)
    have hT6 := hT6.to hE11 trivial
    have hE111 := hE110.trans hE11
    have t60 := hT6.cell 0
    have t61 := hT6.cell 1
    simp only [List.getElem?_cons_zero, List.getElem?_cons_succ] at t60 t61
    clear hs2 hsH hE11 hE110 hT6
    by_cases he : er = 0
    · have he' : (er != 0) = false := by rw [bne_eq_false_iff_eq]; exact he
      rw [if_neg (by simpa using he)] at hds
      by_cases hc : t ≠ 48 ∨ rs ≠ []
      · rw [if_pos hc] at hds
        rw [hds] at hR9 ⊢
        have hn9 := hR9.len
        simp only [List.length_nil] at hn9
        subst hn9
        dsimp only
        have HE := Lib.hid he
        clear he hds
        by_cases ht : t = 48
        · have ht' : (t != 48) = false := by rw [bne_eq_false_iff_eq]; exact ht
          have hr0 : 0 < n6 := by
            rcases hc with h | h
            · exact absurd ht h
            · have := List.length_pos_iff.2 h; omega
          have HT := Lib.hid ht
          clear ht hc
          repeat' go_step
          go_ret
          exact ⟨rfl, hE111⟩
        · have ht' : (t != 48) = true := by rw [bne_iff_ne]; exact ht
          have HT := Lib.hid ht
          clear ht hc
          repeat' go_step
          go_ret
          exact ⟨rfl, hE111⟩
      · rw [if_neg hc] at hds
        obtain ⟨ht, hrs⟩ : t = 48 ∧ rs = [] := by
          constructor
          · exact Decidable.byContradiction fun h => hc (.inl h)
          · exact Decidable.byContradiction fun h => hc (.inr h)
        have ht' : (t != 48) = false := by rw [bne_eq_false_iff_eq]; exact ht
        subst hrs
        simp only [List.length_nil] at hR6l
        subst hR6l
        have HT := Lib.hid ht
        have HE := Lib.hid he
        have HD := Lib.hid hds
        clear ht hc he hds
        repeat' go_step
        refine (reflist_any w11 hR5).mono ?_
        rw [HD.out] at hR9 ⊢
        generalize hL2 : listOf (derAll bd) = L at hR9 ⊢
        obtain ⟨ls2, le2⟩ := L
        rintro x w12 ⟨A10, n10, c10, rfl, hE12, hR10⟩
        dsimp only at hR9 hR10 ⊢
        clear hL2
        have hR9 := hR9.mono (OnS.ext hE12)
        have hE112 := hE111.trans hE12
        have hbe : (le2 == le2) = true := by simp
        repeat' go_step
        refine (sameLists_any w12 hR9 hR10).mono ?_
        rintro x w13 ⟨rfl, hE13⟩
        simp only [beq_self_eq_true]
        repeat' go_step
        go_ret
        exact ⟨rfl, hE112.trans hE13⟩
    · have he' : (er != 0) = true := by rw [bne_iff_ne]; exact he
      rw [if_pos he] at hds
      rw [hds] at hR9 ⊢
      have hn9 := hR9.len
      simp only [List.length_nil] at hn9
      subst hn9
      dsimp only
      have hbe : (er == er) = true := by simp
      have HE := Lib.hid he
      clear he hds
      repeat' go_step
      go_ret
      exact ⟨rfl, hE111⟩
end Go.Proofs.Ytikekdifipacmaa
