/- Data that came in, opened: slices of whatever may be opened. Over any program. -/
import Derived.Test.YtikekdifipacmaaK3
import Derived.Deep.Slices
import Derived.SizedLaws
import Derived.ChangeArms
namespace Go.Proofs.Ytikekdifipacmaa
open Go.RowKit Go.Deep

/-- What comes in at type t reads as T's data, G holding of it, wherever the form's reach is kept. -/
structure Opens {H : Type} (enc : TypeId × Value → H) (P : Program) (W : World) (t : TypeId) {α : Type} (T : Ty α) (G : α → Prop) : Prop where
  cells : P.cellsOf t = T.size
  bytes : P.bytesOf t = T.bytes
  opens : ∀ fuel cs x, DataW.trod enc P W 0 (fun _ => true) true fuel t cs = some x → (∀ n ∈ x.1.weights P t, n ≤ reachBytes) → ∃ a, T.enc (fun _ => True) W cs a ∧ G a

theorem weightsAll_mem {H : Type} {P : Program} {e : TypeId} : ∀ {l : List (DataW H)} {d : DataW H}, d ∈ l → ∀ n ∈ d.weights P e, n ∈ DataW.weightsAll P e l
  | d' :: r, d, hd, n, hn => by
    simp only [DataW.weightsAll, List.mem_append]
    rcases List.mem_cons.1 hd with rfl | h
    · exact Or.inl hn
    · exact Or.inr (weightsAll_mem h n hn)

section
variable {H : Type} {enc : TypeId × Value → H} {P : Program} {W : World}

theorem opens_int {t : TypeId} {k : IntKind} {b : Nat} (ht : P.underlying t = some (.int k)) (hc : P.cellsOf t = 1) (hb : P.bytesOf t = b) : Opens enc P W t (tInt k b) (fun x => k.min ≤ x ∧ x ≤ k.max) :=
  ⟨hc, hb, fun fuel cs x h _ => by
    obtain ⟨n, rfl, _, hw⟩ := DataW.trod_int ht h
    have : k.min ≤ n ∧ n ≤ k.max := by simpa [Lit.wf] using hw
    exact ⟨n, ⟨rfl, this⟩, this⟩⟩

theorem spot_none {w : World} {x : Addr} {v : Value} (h : w.cell? (x.add 0) = some v) : x.spot = none := by
  have h2 : x.add 0 = x := by simp [Addr.add]
  rw [h2] at h
  unfold World.cell? at h
  cases hsp : x.spot with
  | none => rfl
  | some s =>
    rw [hsp] at h
    split at h <;> simp at h

theorem opens_slice {α : Type} [Inhabited α] {T : Ty α} {G : α → Prop} {t e : TypeId} (ht : P.underlying t = some (.slice e)) (hT : Opens enc P W e T G) (hs : 0 < T.size) (hb : 0 < T.bytes) {fuel : Nat} {cs : List Value} {x : DataW H × List MemPlace}
    (h : DataW.trod enc P W 0 (fun _ => true) true fuel t cs = some x) (hw : ∀ n ∈ x.1.weights P t, n ≤ reachBytes) :
    ∃ A n c xs, cs = [.slice A n c] ∧ SR (fun _ => True) W T A n c xs ∧ ∀ x ∈ xs, G x := by
  rcases open_slice ht h with ⟨rfl, rfl⟩ | ⟨a, len, cap, m, n, D, Pl, rfl, _, hl, hm, hmm, rfl, hx⟩
  · exact ⟨none, 0, 0, [], rfl, SR.nils _ _ _, by simp⟩
  · simp only [if_true] at hmm
    subst hmm
    have hreach : reachBytes = 140737488351232 := rfl
    have hwt : m * T.bytes ≤ reachBytes := by
      have := hw ((len + (m - len)) * P.bytesOf e) (by simp [DataW.weights, ht])
      rw [hT.bytes] at this
      rwa [show len + (m - len) = m by omega] at this
    have hlb : len * T.bytes ≤ m * T.bytes := Nat.mul_le_mul_right _ hl
    have hlen : len ≤ len * T.bytes := Nat.le_mul_of_pos_right _ hb
    have hel : ∀ i, i < len → ∃ q : List Value × α, T.enc (fun _ => True) W q.1 q.2 ∧ G q.2 ∧ ∀ j, j < T.size → W.cell? ((a.add (i * T.size)).add j) = q.1[j]? := by
      intro i hi
      obtain ⟨ds, h1, h2⟩ := hx i (by omega)
      rw [hT.cells] at h1
      obtain ⟨_, h3, h4⟩ := World.cells?_some h1
      obtain ⟨y, h5, h6⟩ := hT.opens n ds _ h2 (fun k hk => hw k (by
        simp only [DataW.weights, ht, List.mem_cons, List.mem_append]
        exact .inr (.inl (weightsAll_mem (List.mem_map.2 ⟨i, List.mem_range.2 hi, rfl⟩) k hk))))
      exact ⟨(ds, y), h5, h6, h4⟩
    obtain ⟨F, hF⟩ := choose_lt hel
    have hsz : ∀ i, i < len → (F i).1.length = T.size := fun i hi => T.len (hF i hi).1
    refine ⟨some a, len, m, (List.range len).map fun i => (F i).2, rfl, ⟨by simp, hl, by omega, by omega, fun e => (by cases e), (List.range (len * T.size)).map fun j => (F (j / T.size)).1.getD (j % T.size) undef, ⟨by simp, fun i hi => ?_⟩, fun ad ha h0 => ?_⟩, ?_⟩
    · have hi' : i < len := by simpa using hi
      have e : (((List.range (len * T.size)).map fun j => (F (j / T.size)).1.getD (j % T.size) undef).drop (i * T.size)).take T.size = (F i).1 := by
        have hle : i * T.size + T.size ≤ len * T.size := by rw [← Nat.succ_mul]; exact Nat.mul_le_mul_right _ hi'
        refine List.ext_getElem (by simp [hsz i hi']; omega) fun j hj hj' => ?_
        have hjs : j < T.size := by rw [hsz i hi'] at hj'; exact hj'
        have e1 : (i * T.size + j) / T.size = i := by rw [Nat.mul_comm, Nat.mul_add_div hs, Nat.div_eq_of_lt hjs]; rfl
        have e2 : (i * T.size + j) % T.size = j := by rw [Nat.mul_comm, Nat.mul_add_mod, Nat.mod_eq_of_lt hjs]
        simp only [List.getElem_take, List.getElem_drop, List.getElem_map, List.getElem_range, e1, e2]
        rw [List.getD_eq_getElem?_getD, List.getElem?_eq_getElem hj']
        rfl
      rw [e]
      simpa using (hF i hi').1
    · cases ha
      have h00 := (hF 0 h0).2.2 0 hs
      have hl0 := hsz 0 h0
      rw [List.getElem?_eq_getElem (by omega)] at h00
      have hsp : a.spot = none := spot_none (x := a) (by simpa [Addr.add] using h00)
      refine ⟨trivial, hsp, fun j hj => ?_⟩
      have hj' : j < len * T.size := by simpa using hj
      have hq : j / T.size < len := (Nat.div_lt_iff_lt_mul hs).2 hj'
      have hr : j % T.size < T.size := Nat.mod_lt _ hs
      have hc := (hF (j / T.size) hq).2.2 (j % T.size) hr
      have hadd : (a.add (j / T.size * T.size)).add (j % T.size) = a.add j := by
        obtain ⟨b, o, s⟩ := a
        simp only at hsp
        subst hsp
        have hdm := Nat.div_add_mod j T.size
        rw [Nat.mul_comm] at hdm
        unfold Addr.add
        by_cases e1 : j / T.size * T.size = 0
        · by_cases e2 : j % T.size = 0
          · have : j = 0 := by omega
            simp [e1, e2, this]
          · have : j ≠ 0 := by omega
            have e3 : j % T.size = j := by omega
            simp [e1, e2, e3, this]
        · by_cases e2 : j % T.size = 0
          · have : j ≠ 0 := by omega
            have e3 : j / T.size * T.size = j := by omega
            simp [e1, e2, e3, this]
          · have : j ≠ 0 := by omega
            simp [e1, e2, this, Nat.add_assoc, hdm]
      rw [← hadd, hc]
      have hlq := hsz _ hq
      rw [List.getElem?_eq_getElem (by omega), List.getElem?_map, List.getElem?_range hj']
      simp only [Option.map_some]
      rw [List.getD_eq_getElem?_getD, List.getElem?_eq_getElem (by omega)]
      rfl
    · intro y hy
      obtain ⟨i, hi, rfl⟩ := List.mem_map.1 hy
      exact (hF i (List.mem_range.1 hi)).2.1
end
end Go.Proofs.Ytikekdifipacmaa
