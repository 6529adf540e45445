/- StoreCounts walked. -/
import Derived.Test.YtolcjcdnkiabpaaS7
import Derived.Deep.LoopGhost
namespace Go.Proofs.Ytolcjcdnkiabpaa
open Go.RowKit

/-- Truth values. -/
def tBool : Ty Bool where
  size := 1
  bytes := 1
  enc := fun _ _ cs a => cs = [.bool a]
  len := by rintro _ _ _ _ rfl; rfl
  one := by rintro _ _ _ _ rfl v hv; simp at hv; subst hv; rfl
  mono := fun _ h => h
  weaken := fun _ h => h
abbrev tU32 : Ty Int := tInt .u32 4

theorem Try.size22 : (Try.prog.info? 22).map (·.size) = some 1 := by kernel_rfl
theorem Try.size4 : (Try.prog.info? 4).map (·.size) = some 1 := by kernel_rfl

theorem SR.idxB {w : World} {S : Nat → Prop} {A : Option Addr} {n c : Nat} {xs : List Bool} (H : SR S w tBool A n c xs) (k : IntKind) (iv : Int) (i : Nat) (ei : iv = i) (hlt : i < n) :
    ∃ ad b, (∀ W : World, (Instr.indexAt 24 (.slice A n c) (.int k iv)).run Try.prog W = .ok (.pointer (some ad)) W) ∧ w.cell? ad = some (.bool b) ∧ S ad.block := by
  obtain ⟨ad, cs, h1, hs, h2, hc⟩ := H.idx Try.underlying24 Try.size4 k iv i ei hlt
  have h2 : cs = [.bool (xs[i]'(by rw [H.len]; exact hlt))] := h2
  subst h2
  have h5 := hc 0 (by simp)
  exact ⟨ad, _, h1, by simpa [Addr.add] using h5, hs⟩

set_option maxRecDepth 100000 in
set_option maxHeartbeats 8000000 in
theorem counts_any {A B : Option Addr} {n c m d : Nat} {xs : List Int} {ys : List Bool} {first : Int} (w : World) (hf0 : 0 ≤ first) (hf1 : first ≤ 4294967295) (HA : SR (fun _ => True) w tU32 A n c xs) (HB : SR (fun _ => True) w tBool B m d ys) :
    Calls Try.prog 3 #[.int .u32 first, .slice A n c, .slice B m d] w fun e w' => e = .returned (.bool true) ∧ Ext w w' := by
  go_enter Try.func3, Try.ntmps3
  repeat' (first | go_values | go_skip | go_guarded | go_step)
  refine (awake_any w).mono ?_
  rintro e w1 ⟨rfl, hE1⟩
  dsimp only
  repeat' (first | go_values | go_skip | go_guarded | go_step)
  refine (new_any w1 1).mono ?_
  rintro e w2 ⟨sb, rfl, hsb, hE2, hs2⟩
  dsimp only
  repeat' (first | go_values | go_skip | go_guarded | go_step)
  have hA1 := lit8 w2 5 [.int .u8 7] [7] rfl (by decide) 1 rfl (by decide) w2.heap.size rfl
  generalize hw3 : World.alloc w2 _ = w3
  have hE3 : Ext w2 w3 := hw3 ▸ OnS.alloc _ _
  rw [show World.alloc w2 _ = w3 from hw3] at hA1
  clear hw3
  have hs3 := hs2.to hE3 trivial
  refine (put_nil w3 { data := #[117] } first 0 false hs3 hA1 (by decide) (by decide) (by decide)).mono ?_
  rintro e w4 ⟨rfl, hO4, g, cap, A', c', more, hg, hs4, hg4, hS4⟩
  dsimp only
  have hz1 := hE1.size
  have hz2 := hE2.size
  have hz3 := hE3.size
  have hz4 := hO4.size
  have hsl := hs3.lt
  have hW4 : Ext w w4 := OnS.since (hE1.trans (hE2.trans hE3)) hO4 (fun k hk _ => by omega)
  have hsg : sb ≠ g := by omega
  have hwg : w.heap.size ≤ g := by omega
  have hS4' := hS4.weaken (S' := fun k => k ≠ g) (by decide) (fun _ _ h => h.2)
  clear hS4 hz1 hz2 hz3 hz4 hsl hs3 hA1 hs2 hO4 hE1 hE2 hE3
  repeat' (first | go_values | go_skip | go_guarded | go_step)
  go_loopg [8, 9, 28] n (fun k vm vf vi wr => ∃ (j : Nat) (mx : Int) (fl : Bool), j + k = n ∧ vm = .int .u32 mx ∧ vf = .bool fl ∧ vi = .int .i64 j ∧ 0 ≤ mx ∧ mx ≤ 4294967295 ∧ j ≤ 201 ∧ Ext w wr ∧ Bx wr sb 79 [.int .i64 1, .slice (some ⟨g, 0, none⟩) 1 cap] ∧ Bx wr g 42 (crL (.slice A' 1 c') { data := #[117] } mx 0 fl ++ more) ∧ SR (fun k => k ≠ g) wr tU8 A' 1 c' [7])
  case atStart => exact ⟨0, first, false, by omega, rfl, rfl, rfl, hf0, hf1, by omega, hW4, hs4, hg4, hS4'⟩
  case round =>
    obtain ⟨j, mx, fl, hj, rfl, rfl, rfl, hm0, hm1, hj201, hEr, hsr, hgr, hSr⟩ := hrel
    by_cases hjn : j < n
    · obtain ⟨ad, hix, hcx, -, hq0, hq1⟩ := (HA.mono (OnS.ext hEr)).idxI Try.underlying23 Try.size22 .i64 j j rfl hjn
      obtain ⟨q, hq⟩ : ∃ q, xs.getD j 0 = q := ⟨_, rfl⟩
      rw [hq] at hcx hq0 hq1
      clear hq
      simp [IntKind.min, IntKind.signed] at hq0
      simp [IntKind.max, IntKind.signed, IntKind.bits] at hq1
      by_cases h200 : 200 < j
      · have hd : decide (200 < (j : Int)) = true := by simp; omega
        repeat' (first | go_values | go_skip | go_guarded | go_step)
        go_ret
        exact ⟨rfl, hEr⟩
      · have hd : decide (200 < (j : Int)) = false := by simp; omega
        by_cases hjm : j < m
        case' pos =>
          obtain ⟨ad2, b, hix2, hcx2, -⟩ := (HB.mono (OnS.ext hEr)).idxB .i64 j j rfl hjm
          have hdm : decide ((j : Int) < m) = true := by simp; omega
          repeat' (first | go_values | go_skip | go_guarded | go_step)
          clear hdm hix2 hcx2
          cases b
        case' neg =>
          have hdm : decide ((j : Int) < m) = false := by simp; omega
          repeat' (first | go_values | go_skip | go_guarded | go_step)
          clear hdm
        all_goals
          clear hd hix hcx
          have hA2 := lit8 wr 5 [.int .u8 7] [7] rfl (by decide) 1 rfl (by decide) wr.heap.size rfl
          generalize hw5 : World.alloc wr _ = w5
          have hE5 : Ext wr w5 := hw5 ▸ OnS.alloc _ _
          rw [show World.alloc wr _ = w5 from hw5] at hA2
          clear hw5
          have hS5 := hSr.mono (OnS.ext hE5)
          refine (mark_one w5 { data := #[117] } mx 0 fl (hsr.to hE5 trivial) (hgr.to hE5 trivial) (hS5.weaken (S' := fun _ => True) (by decide) (fun _ _ _ => trivial)) hA2 q _).mono ?_
          rintro e w6 ⟨rfl, hO6, hg6⟩
          dsimp only
          have hS6 := hS5.mono hO6
          have hs6 := (hsr.to hE5 trivial).to hO6 hsg
          have hE6 : Ext w w6 := OnS.since (hEr.trans hE5) hO6 (fun k hk _ => by omega)
          clear hO6 hsr hgr hSr hS5 hE5 hEr hA2
          cases fl
          all_goals
            simp only [Bool.or_false, Bool.or_true, Bool.or_self] at hg6
            obtain ⟨M, hM⟩ : ∃ M, max mx q = M := ⟨_, rfl⟩
            have hmx : (if mx < q then q else mx) = M := by rw [← hM, Int.max_def]; split <;> split <;> omega
            have hMr : 0 ≤ M ∧ M ≤ 4294967295 := by rw [← hmx]; split <;> omega
            obtain ⟨hM0, hM1⟩ := hMr
            rw [hM] at hg6
            clear hM
            repeat' (first | go_values | go_skip | go_guarded | go_step)
            clear hmx
            have hA3 := lit8 w6 5 [.int .u8 7] [7] rfl (by decide) 1 rfl (by decide) w6.heap.size rfl
            generalize hw7 : World.alloc w6 _ = w7
            have hE7 : Ext w6 w7 := hw7 ▸ OnS.alloc _ _
            rw [show World.alloc w6 _ = w7 from hw7] at hA3
            clear hw7
            refine (get_one w7 { data := #[117] } M 0 _ (hs6.to hE7 trivial) (hg6.to hE7 trivial) ((hS6.mono (OnS.ext hE7)).weaken (S' := fun _ => True) (by decide) (fun _ _ _ => trivial)) hA3).mono ?_
            rintro e w8 ⟨⟨A8, c8, rfl⟩, hE8⟩
            dsimp only
            repeat' ((fail_if_success (with_reducible refine wl_skip (o := ⟨none, .store 42 _ _, _, _, _, _⟩) (w' := ?_) ?_ ?_ ?_ ?_)); first | go_values | go_skip | go_guarded | go_step)
            generalize hw9 : World.alloc w8 _ = w9
            have hE9 : Ext w8 w9 := hw9 ▸ OnS.alloc _ _
            have hR9 : Bx w9 w8.heap.size 42 (crL (.slice none 0 0) { data := #[] } 0 0 false) := hw9 ▸ Bx.new w8 _ 42
            clear hw9
            refine wl_store_part (vs := crL (.slice A8 1 c8) { data := #[117] } M 0 _) (off := 0) rfl hR9 rfl rfl rfl rfl rfl rfl (by simp) (by simp [Value.oneCell']) ?_
            intro w10 hO10 hzz hR10
            clear hzz
            have hR11 : Bx w10 w8.heap.size 42 (crL (.slice A8 1 c8) { data := #[117] } M 0 _) := hR10
            clear hR10
            have hz6 := hE6.size
            have hz7 := hE7.size
            have hz8 := hE8.size
            have hgl := hg6.lt
            have hsl := hs6.lt
            have hs10 := (hs6.to (hE7.trans (hE8.trans hE9)) trivial).to hO10 (by omega)
            have hg10 := (hg6.to (hE7.trans (hE8.trans hE9)) trivial).to hO10 (by omega)
            have hS8 := (hS6.mono (OnS.ext (hE7.trans hE8))).weaken (S' := fun k => k ≠ g ∧ k ≠ w8.heap.size) (by decide) (fun k hk h => ⟨h, by omega⟩)
            have hS10 := (hS8.mono (OnS.ext hE9)).mono (hO10.weaken (fun k _ h => h.2))
            have hE10 : Ext w w10 := OnS.since (hE6.trans (hE7.trans (hE8.trans hE9))) hO10 (fun k hk _ => by omega)
            have hSX := hS10.weaken (S' := fun k => k ≠ g) (by decide) (fun _ _ h => h.1)
            have r9 := hR11.cell 9
            have r11 := hR11.cell 11
            simp only [crL, List.getElem?_cons_zero, List.getElem?_cons_succ] at r9 r11
            have hMM : (M != M) = false := by simp
            clear hS10 hS8 hS6 hs6 hg6 hE7 hE8 hE9 hR9 hO10
            repeat' (first | go_values | go_skip | go_guarded | go_step)
            go_roundg (n - (j + 1))
            case rel => exact ⟨j + 1, M, _, by omega, rfl, rfl, by simp, hM0, hM1, by omega, hE10, hs10, hg10, hSX⟩
            case measure => omega
    · obtain rfl : j = n := by omega
      repeat' (first | go_values | go_skip | go_guarded | go_step)
      go_ret
      exact ⟨rfl, hEr⟩
end Go.Proofs.Ytolcjcdnkiabpaa
