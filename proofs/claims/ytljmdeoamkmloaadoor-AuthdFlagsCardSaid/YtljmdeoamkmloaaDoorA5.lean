/- AuthdFlags walked. -/
import Derived.Test.YtljmdeoamkmloaaDoorA4
import Derived.Stop.BytesEq
namespace Go.Proofs.YtljmdeoamkmloaaDoor
open Go.RowKit Go.Extern.Stop

set_option maxRecDepth 100000 in
theorem bits_key : ∀ n : Fin 256, ((bits .andNot .u8 (n.val : Int) 5 != 0) = true → headErr n.val = 60 ∨ headErr n.val = 20 ∧ (bits .and .u8 (n.val : Int) 128 != 0) = true) ∧ ((bits .andNot .u8 (n.val : Int) 5 != 0) = false → headErr n.val = 0) := by
  decide +kernel

set_option maxRecDepth 100000 in
set_option maxHeartbeats 4000000 in
theorem flags_any (w : World) (hash : List Int) (f q less : Int) (hh : hash.length = 32) (hr : ∀ x ∈ hash, 0 ≤ x ∧ x ≤ 255) (hf : 0 ≤ f ∧ f ≤ 255) (hq : 0 ≤ q ∧ q ≤ 4294967295) (hl : 0 ≤ less ∧ less ≤ 255) :
    Calls Tryd.prog 4 #[.agg (hash.map (Value.int .u8)).toArray, .int .u8 f, .int .u32 q, .int .u8 less] w fun x w' => x = .returned (.bool true) ∧ Ext w w' := by
  obtain ⟨hf0, hf1⟩ := hf
  obtain ⟨hq0, hq1⟩ := hq
  obtain ⟨hl0, hl1⟩ := hl
  go_enter Tryd.func4, Tryd.ntmps4
  iterate 5 (first | go_values | go_skip | go_guarded | go_step)
  generalize hw1 : World.alloc w _ = w1
  have hE1 : Ext w w1 := hw1 ▸ OnS.alloc _ _
  have hH1 : Bx w1 w.heap.size 23 (hash.map (Value.int .u8)) := hw1 ▸ Bx.new w _ 23
  clear hw1
  repeat' (first | go_values | go_skip | go_guarded | go_step)
  refine (awake_any w1).mono ?_
  rintro e w2 ⟨rfl, hE2⟩
  dsimp only
  have hH2 := hH1.to hE2 trivial
  have hz2 := hH2.lt
  repeat' ((fail_if_success at_builtin); first | go_values | go_skip | go_guarded | go_step)
  have hHS : SR (fun _ => True) w2 tU8 (some ⟨w.heap.size, 0, none⟩) 32 32 hash := SR.ofBx hH2 (encs_map8 _ _ hash hr) trivial 32 hh.symm (by decide) (by decide)
  refine wl_app_grow8 rfl (hHS.mono (OnS.alloc _ _)) (lit8 w2 5 [.int .u8 f, .int .u8 (q / 16777216), .int .u8 (q / 65536 % 256), .int .u8 (q / 256 % 256), .int .u8 (q % 256)] [f, q / 16777216, q / 65536 % 256, q / 256 % 256, q % 256] rfl (by simp; omega) 5 rfl (by decide) w2.heap.size rfl) Tryd.underlying22 Tryd.info5 rfl rfl rfl rfl (by decide) (by decide) 37 rfl ?_
  intro A3 c3 w3 hO3 hE3
  obtain ⟨B3, d3, h3, hR3⟩ := hO3.read (S' := fun _ => True) (fun _ _ => trivial) (fun _ _ _ => trivial) (by simp [tInt, hh]) (by simp [hh])
  have hlen3 : (hash ++ [f, q / 16777216, q / 65536 % 256, q / 256 % 256, q % 256]).length = 37 := by simp [hh]
  rw [hlen3] at h3 hR3
  cases h3
  have hH3 := (hH2.to (OnS.alloc _ _) trivial).to hE3 trivial
  have hE13 : Ext w w3 := hE1.trans (hE2.trans ((OnS.alloc _ _).trans hE3))
  clear hO3 hE3 hlen3 hH2 hHS
  repeat' (first | go_values | go_skip | go_guarded | go_step)
  have hcnt : cnt [q / 16777216, q / 65536 % 256, q / 256 % 256, q % 256] = q := by simp [cnt]; omega
  have hP := parse_head (hash := hash) (f := f) w3 hh (by simp; omega) hR3
  rw [hcnt] at hP
  refine hP.mono ?_
  rintro e w4 ⟨rfl, hE4⟩
  dsimp only
  have hvl : (headVal hash f q).length = 61 := by
    unfold headVal
    split
    · exact authL_len hash hh _ _ _ _
    · decide
  have hv1 : ∀ u ∈ headVal hash f q, u.oneCell' = true := by
    unfold headVal
    split
    · exact authL_one _ _ _ _ _
    · exact authL_one _ _ _ _ _
  obtain ⟨V, hV⟩ : ∃ V, headVal hash f q = V := ⟨_, rfl⟩
  rw [hV] at hvl hv1 ⊢
  obtain ⟨AV, hAV⟩ : ∃ AV, Value.agg V.toArray = AV := ⟨_, rfl⟩
  rw [hAV]
  have HV := Lib.hid hV
  clear hP hcnt
  repeat' ((fail_if_success (with_reducible refine wl_skip (o := ⟨none, .store 36 _ _, _, _, _, _⟩) (w' := ?_) ?_ ?_ ?_ ?_)); first | go_values | go_skip | go_guarded | go_step)
  refine wl_store_part (vs := V) (off := 0) rfl (Bx.new w4 ZA 36) rfl rfl rfl rfl (by rw [← hAV]; rfl) (by rw [hvl]; rfl) (by rw [hvl]; decide) hv1 ?_
  intro w5 hO5 hzz hK5
  clear hzz
  have hK5 : Bx w5 w4.heap.size 36 V := by
    have e : List.take 0 ZA ++ V ++ List.drop (0 + V.length) ZA = V := by
      rw [hvl, List.take_zero, List.nil_append, List.drop_of_length_le (by decide), List.append_nil]
    rwa [e] at hK5
  have hz34 := hE4.size
  have hzw3 := hE13.size
  have hO35 : OnS (· < w4.heap.size) w4 w5 := OnS.since (OnS.ext (OnS.alloc _ _)) hO5 (fun i _ h => by omega)
  have hE5 : Ext w w5 := OnS.since (hE13.trans hE4) (S' := (· < w4.heap.size)) hO35 (fun i hi _ => by omega)
  have hH5 := (hH3.to hE4 trivial).to hO35 (by have := hH3.lt; omega)
  have hR5 : SR (· < w4.heap.size) w5 tU8 A3 37 c3 (hash ++ [f, q / 16777216, q / 65536 % 256, q / 256 % 256, q % 256]) :=
    (((hR3.weaken (S' := (· < w3.heap.size)) (by decide) (fun k hk _ => hk)).mono (OnS.ext hE4)).weaken (S' := (· < w4.heap.size)) (by decide) (fun k hk _ => hk)).mono hO35
  clear hR3
  have r37 : Int.tmod less 37 = less % 37 := Int.tmod_eq_emod_of_nonneg hl0
  obtain ⟨k, hk1, hk2⟩ : ∃ k : Nat, 36 - less % 37 = (k : Int) ∧ k < 37 := ⟨(36 - less % 37).toNat, by omega, by omega⟩
  obtain ⟨hcut, _⟩ := hR5.cutH Tryd.underlying22 (by rw [Tryd.size5]; rfl) .i64 (36 - less % 37) k hk1 (by omega)
  have HK := Lib.hid hk1
  clear hk1
  repeat' (first | go_values | go_skip | go_guarded | go_step)
  refine (parse_short w5 hk2).mono ?_
  rintro e w6 ⟨rfl, hE6⟩
  dsimp only
  repeat' ((fail_if_success (with_reducible refine wl_skip (o := ⟨none, .store 36 _ _, _, _, _, _⟩) (w' := ?_) ?_ ?_ ?_ ?_)); first | go_values | go_skip | go_guarded | go_step)
  refine wl_store_part (vs := ZA) (off := 0) rfl (Bx.new w6 ZA 36) rfl rfl rfl rfl rfl rfl (by decide) (by decide) ?_
  intro w7 hO7 hzz hzz2
  clear hzz hzz2
  have hz56 := hE6.size
  have hzk := hK5.lt
  have hE7 : Ext w w7 := OnS.since ((hE5.trans hE6).trans (OnS.alloc _ _)) hO7 (fun i hi _ => by have := hE5.size; omega)
  have hK7 := ((hK5.to hE6 trivial).to (OnS.alloc _ _) trivial).to hO7 (by omega)
  have hH7 := ((hH5.to hE6 trivial).to (OnS.alloc _ _) trivial).to hO7 (by have := hH5.lt; omega)
  obtain ⟨ZV, hZV⟩ : ∃ ZV, Value.agg ZA.toArray = ZV := ⟨_, rfl⟩
  rw [hZV]
  have hkey := bits_key ⟨f.toNat, by omega⟩
  have hfn : ((f.toNat : Nat) : Int) = f := by omega
  simp only [hfn] at hkey
  clear hcut hK5 hH5 hR5 hO7 hfn hZV hvl hv1
  by_cases h5 : bits .andNot .u8 f 5 = 0
  · have hb5 : (bits .andNot .u8 f 5 != 0) = false := by simpa using h5
    have he := hkey.2 hb5
    rw [he]
    have hVe : V = authL hash (bits .and .u8 f 1 != 0) (bits .and .u8 f 4 != 0) false q := by
      rw [← HV.out]; unfold headVal; rw [if_pos he]
    obtain ⟨bp, hbp⟩ : ∃ b, (bits .and .u8 f 1 != 0) = b := ⟨_, rfl⟩
    obtain ⟨bv, hbv⟩ : ∃ b, (bits .and .u8 f 4 != 0) = b := ⟨_, rfl⟩
    rw [hbp, hbv] at hVe
    rw [hVe] at hK7
    obtain ⟨q32, q33, q34, q35⟩ := authL_get hash hh bp bv false q
    have q57 : (authL hash bp bv false q)[57]? = some (.int .u8 0) := by simp [authL, hh]
    rw [← hK7.cell] at q32 q33 q34 q35 q57
    have hHl : (hash.map (Value.int .u8)).length = 32 := by simp [hh]
    have hEq : ∀ W : World, (binOp .eql 23 (.agg (hash.map (Value.int .u8)).toArray) (.agg (hash.map (Value.int .u8)).toArray)).run Tryd.prog W = .ok (.bool true) W := fun W => by
      have h := run_eql_bytes (P := Tryd.prog) W 23 5 32 Tryd.underlying23 Tryd.underlying5 (fun _ => by kernel_rfl) (hash.map fun x => UInt8.ofNat x.toNat) (hash.map fun x => UInt8.ofNat x.toNat) (by simp [hh]) (by simp [hh])
      have e : (hash.map fun x => UInt8.ofNat x.toNat).map cell = hash.map (Value.int .u8) := by
        rw [List.map_map]
        refine List.map_congr_left fun x hx => ?_
        have := hr x hx
        simp only [Function.comp, cell, UInt8.toNat_ofNat']
        congr 1
        show (((x.toNat % 2 ^ 8 : Nat)) : Int) = x
        omega
      rw [e] at h
      simpa using h
    clear hkey HV hVe h5
    repeat' ((fail_if_success (with_reducible refine wl_run (o := ⟨_, .load 23 _, _, _, _, _⟩) (w' := ?_) (v := ?_) ?_ ?_ ?_)); first | go_values | go_skip | go_guarded | go_step)
    refine wl_load_part (vs := hash.map (Value.int .u8)) (off := 0) rfl hK7 rfl rfl (by kernel_rfl) (by rw [hHl]; rfl) ?_ ?_
    · rw [hHl, List.drop_zero]
      simp [authL, hh]
    repeat' ((fail_if_success (with_reducible refine wl_run (o := ⟨_, .load 23 _, _, _, _, _⟩) (w' := ?_) (v := ?_) ?_ ?_ ?_)); first | go_values | go_skip | go_guarded | go_step)
    refine wl_load_part (vs := hash.map (Value.int .u8)) (off := 0) rfl hH7 rfl rfl (by kernel_rfl) (by rw [hHl]; rfl) (by rw [List.drop_zero, List.take_length]) ?_
    repeat' (first | go_values | go_skip | go_guarded | go_step)
    go_ret
    exact ⟨rfl, hE7⟩
  · have hb5 : (bits .andNot .u8 f 5 != 0) = true := by simpa using h5
    rcases hkey.1 hb5 with he | ⟨he, hb⟩
    · rw [he]
      repeat' (first | go_values | go_skip | go_guarded | go_step)
      go_ret
      exact ⟨rfl, hE7⟩
    · rw [he]
      repeat' (first | go_values | go_skip | go_guarded | go_step)
      go_ret
      exact ⟨rfl, hE7⟩
end Go.Proofs.YtljmdeoamkmloaaDoor
