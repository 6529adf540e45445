import Derived.Test.YtikekdifipacmaaD7
namespace Go.Proofs.Ytikekdifipacmaa
open Go.RowKit

/-- A slice of bytes as a string. -/
theorem SR.str {P : Program} {S : Nat → Prop} {w : World} {A : Option Addr} {n c : Nat} {xs : List Int} {src dst e : TypeId} (H : SR S w tU8 A n c xs) (hs : P.underlying src = some (.slice e)) (he : P.underlying e = some (.int .u8)) (hd : P.underlying dst = some .string) :
    (convert src dst (.slice A n c)).run P w = .ok (.string (strOfNums xs)) w := by
  obtain ⟨h1, h2, h3, h4, h5, cs, h6, h7⟩ := H
  rcases Nat.eq_zero_or_pos n with h0 | h0
  · subst h0
    have : xs = [] := List.eq_nil_of_length_eq_zero h1
    subst this
    rw [run_convert_bytes_string w src dst e _ _ _ hs he hd]
    cases A <;> simp [Conv.bytesToString, strOfNums, loadCells, loadCellsFrom, go_sem]
    all_goals rfl
  · cases A with
    | none => have := h5 rfl; omega
    | some ad =>
      obtain ⟨h8, h9, h10⟩ := h7 ad rfl h0
      obtain ⟨b, o, s⟩ := ad
      simp only at h9
      subst h9
      refine run_convert_bytes_arg w src e hs he b o n c xs h1 (fun i hi => ?_) dst hd
      have hl : cs.length = xs.length := by rw [h6.1]; simp [tInt]
      have h11 := h10 i (by omega)
      have h12 := h6.2 i (by omega)
      simp only [tInt, Nat.mul_one] at h12
      have ha : (⟨b, o, none⟩ : Addr).add i = ⟨b, o + i, none⟩ := by unfold Addr.add; split <;> simp_all
      rw [ha] at h11
      rw [h11]
      have h13 : cs[i]? = ((cs.drop i).take 1)[0]? := by simp [List.getElem?_take, List.getElem?_drop]
      rw [h13, h12.1]
      simp [List.getD_eq_getElem?_getD, List.getElem?_eq_getElem (show i < xs.length by omega)]

theorem bytes_toList (s : ByteArray) : s.toList = s.data.toList := by
  have key : ∀ (n i : Nat) (r : List UInt8), n = s.size - i → ByteArray.toList.loop s i r = r.reverse ++ s.data.toList.drop i := by
    intro n
    induction n with
    | zero =>
      intro i r h
      rw [ByteArray.toList.loop]
      rw [if_neg (by omega), List.drop_eq_nil_of_le (by rw [Array.length_toList]; show s.size ≤ i; omega)]
      simp
    | succ n ih =>
      intro i r h
      have hi : i < s.size := by omega
      rw [ByteArray.toList.loop]
      rw [if_pos hi, ih (i + 1) _ (by omega)]
      have h2 : i < s.data.toList.length := by rw [Array.length_toList]; exact hi
      rw [List.drop_eq_getElem_cons h2]
      have h3 : i < s.data.size := hi
      simp [ByteArray.get!]
      exact getElem!_pos s.data i h3
  have := key s.size 0 [] (by omega)
  simpa [ByteArray.toList] using this

theorem strOfNums_inj : ∀ (xs ys : List Int), (∀ x ∈ xs, 0 ≤ x ∧ x ≤ 255) → (∀ x ∈ ys, 0 ≤ x ∧ x ≤ 255) → (((strOfNums xs).toList == (strOfNums ys).toList) = (xs == ys)) := by
  intro xs ys hx hy
  have key : (strOfNums xs).toList = (strOfNums ys).toList ↔ xs = ys := by
    constructor
    · intro h
      have h1 : xs.map (fun n => UInt8.ofNat n.toNat) = ys.map (fun n => UInt8.ofNat n.toNat) := by
        rw [bytes_toList, bytes_toList] at h
        simpa [strOfNums] using h
      have inv : ∀ l : List Int, (∀ x ∈ l, 0 ≤ x ∧ x ≤ 255) → (l.map (fun n => UInt8.ofNat n.toNat)).map (fun u => (u.toNat : Int)) = l := by
        intro l hl
        rw [List.map_map]
        refine (List.map_congr_left fun x hx => ?_).trans (List.map_id l)
        have := hl x hx
        simp only [Function.comp, UInt8.toNat_ofNat', id]
        omega
      rw [← inv xs hx, ← inv ys hy, h1]
    · rintro rfl; rfl
  by_cases h : xs = ys
  · subst h; simp
  · have : ¬ (strOfNums xs).toList = (strOfNums ys).toList := fun e => h (key.1 e)
    rw [beq_eq_false_iff_ne.2 this, beq_eq_false_iff_ne.2 h]

theorem SR.range {S : Nat → Prop} {w : World} {A : Option Addr} {n c : Nat} {xs : List Int} (H : SR S w tU8 A n c xs) : ∀ x ∈ xs, 0 ≤ x ∧ x ≤ 255 := by
  intro x hx
  obtain ⟨i, hi, rfl⟩ := List.getElem_of_mem hx
  have := SR.byte H i
  simpa [List.getD_eq_getElem?_getD, List.getElem?_eq_getElem hi] using this

set_option maxHeartbeats 400000 in
/-- latchkeyref10.Same. -/
theorem same_any {S S' : Nat → Prop} {A B : Option Addr} {n c m d : Nat} {xs ys : List Int} (t u : Int) (w : World) (HA : SR S w tU8 A n c xs) (HB : SR S' w tU8 B m d ys) :
    Calls Try.prog 16 #[.agg #[.int .u8 t, .slice A n c], .agg #[.int .u8 u, .slice B m d]] w fun e w' => e = .returned (.bool (t == u && xs == ys)) ∧ Ext w w' := by
  have hE : Ext w ((w.alloc (.cells #[.int .u8 t, .slice A n c] 28)).alloc (.cells #[.int .u8 u, .slice B m d] 28)) := (OnS.alloc _ _).trans (OnS.alloc _ _)
  have ha := (HA.mono (OnS.ext hE)).str (P := Try.prog) Try.underlying25 Try.underlying5 Try.underlying9
  have hb := (HB.mono (OnS.ext hE)).str (P := Try.prog) Try.underlying25 Try.underlying5 Try.underlying9
  have hi := strOfNums_inj xs ys HA.range HB.range
  by_cases htu : t = u
  · have htu' : (t == u) = true := by simpa using htu
    have HT := Lib.hid htu
    clear htu
    have HI := Lib.hid hi
    clear hE hi
    go_enter Try.func16, Try.ntmps16
    repeat' go_step
    go_ret
    refine ⟨?_, (OnS.alloc _ _).trans (OnS.alloc _ _)⟩
    rw [← HI.out, htu']
    rfl
  · have htu' : (t == u) = false := by simpa using htu
    have HT := Lib.hid htu
    clear htu
    clear hE hi
    go_enter Try.func16, Try.ntmps16
    repeat' go_step
    go_ret
    refine ⟨?_, (OnS.alloc _ _).trans (OnS.alloc _ _)⟩
    rw [htu']
    rfl

/-- der.Seq's answer, plainly. -/
def derSeq (b : List Int) : List (Int × List Int) × Int :=
  if (derRead b).2.2.2 ≠ 0 then ([], (derRead b).2.2.2)
  else if (derRead b).1 ≠ 48 ∨ (derRead b).2.2.1 ≠ [] then ([], 30)
  else listOf (derAll (derRead b).2.1)

set_option maxHeartbeats 400000 in
theorem seq_any {S : Nat → Prop} {A : Option Addr} {n c : Nat} {b : List Int} (w : World) (H : SR S w tU8 A n c b) :
    Calls Try.prog 18 #[.slice A n c] w fun e w' => ∃ A' n' c', e = .returned (.tuple #[.slice A' n' c', .int .i64 (derSeq b).2]) ∧ Ext w w' ∧ SR (fun _ => True) w' tTlv A' n' c' (derSeq b).1 := by
  go_enter Try.func18, Try.ntmps18
  repeat' go_step
  refine (read_any _ H).mono ?_
  rintro _ w2 ⟨v, rfl, hE2, A1, n1, c1, A2, n2, c2, rfl, hR1, hR2⟩
  have hds : derSeq b = if (derRead b).2.2.2 ≠ 0 then ([], (derRead b).2.2.2)
    else if (derRead b).1 ≠ 48 ∨ (derRead b).2.2.1 ≠ [] then ([], 30)
    else listOf (derAll (derRead b).2.1) := rfl
  generalize derRead b = r at *
  obtain ⟨tg, bd, rs, er⟩ := r
  have HD := Lib.hid hds
  clear hds
  simp only at hR1 hR2 HD ⊢
  have hl2 := hR2.len
  by_cases her : er = 0
  · subst her
    have h0 : ((0 : Int) != 0) = false := rfl
    by_cases htg : tg = 48
    · subst htg
      by_cases hrs : rs = []
      · subst hrs
        have hn2 : n2 ≤ 0 := by simp at hl2; omega
        have hE3 : Ext w2 (w2.alloc (.cells #[.int .u8 48, .slice A1 n1 c1] 28)) := OnS.alloc _ _
        clear hl2
        repeat' go_step
        refine (list_any _ (hR1.mono (OnS.ext hE3))).mono ?_
        rintro _ w4 ⟨A4, n4, c4, rfl, hE4, hR4⟩
        simp only
        repeat' go_step
        go_ret2
        rw [HD.out]
        exact ⟨A4, n4, c4, rfl, (hE2.trans hE3).trans hE4, hR4⟩
      · have hn2 : 0 < n2 := by
          rcases Nat.eq_zero_or_pos n2 with h | h
          · exact absurd (List.eq_nil_of_length_eq_zero (by omega)) hrs
          · exact h
        have HR := Lib.hid hrs
        clear hrs
        repeat' go_step
        go_ret2
        rw [HD.out, if_neg (by simp), if_pos (.inr HR.out)]
        exact ⟨none, 0, 0, rfl, hE2.trans (OnS.alloc _ _), SR.nils _ _ _⟩
    · have htg' : (tg != 48) = true := by simpa using htg
      have HT := Lib.hid htg
      clear htg
      repeat' go_step
      go_ret2
      rw [HD.out, if_neg (by simp), if_pos (.inl HT.out)]
      exact ⟨none, 0, 0, rfl, hE2.trans (OnS.alloc _ _), SR.nils _ _ _⟩
  · have her' : (er != 0) = true := by simpa using her
    have HE := Lib.hid her
    clear her
    repeat' go_step
    go_ret2
    rw [HD.out, if_pos HE.out]
    exact ⟨none, 0, 0, rfl, hE2.trans (OnS.alloc _ _), SR.nils _ _ _⟩
#print axioms seq_any
#print axioms same_any
end Go.Proofs.Ytikekdifipacmaa
