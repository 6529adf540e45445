/- Plain words on memory: data that lies in blocks of a set, slices that read as lists. No program. -/
import Derived.WalkKit
import Derived.WalkSpells
import Derived.Maps.AppendAt
import Derived.Lib.SliceRun
import Derived.OneCell
import Derived.Deep.Draws
namespace Go.Proofs.Ytikekdifipacmaa
open Go.RowKit

/-- Blocks of S stay as they are; no block goes; the streams stay. -/
structure OnS (S : Nat → Prop) (w w' : World) : Prop where
  os : w'.os = w.os
  tape : w'.tape = w.tape
  output : w'.output = w.output
  size : w.heap.size ≤ w'.heap.size
  block : ∀ k, k < w.heap.size → S k → w'.heap[k]? = w.heap[k]?

/-- All that was there stays. -/
abbrev Ext (w w' : World) : Prop := OnS (fun _ => True) w w'

theorem OnS.refl (S : Nat → Prop) (w : World) : OnS S w w := ⟨rfl, rfl, rfl, Nat.le_refl _, fun _ _ _ => rfl⟩
theorem OnS.trans {S : Nat → Prop} {a b c : World} (h : OnS S a b) (k : OnS S b c) : OnS S a c :=
  ⟨k.os.trans h.os, k.tape.trans h.tape, k.output.trans h.output, Nat.le_trans h.size k.size,
   fun i hi hs => (k.block i (Nat.lt_of_lt_of_le hi h.size) hs).trans (h.block i hi hs)⟩
theorem OnS.weaken {S S' : Nat → Prop} {a b : World} (h : OnS S a b) (hs : ∀ k, k < a.heap.size → S' k → S k) : OnS S' a b :=
  ⟨h.os, h.tape, h.output, h.size, fun i hi hk => h.block i hi (hs i hi hk)⟩
theorem OnS.ext {S : Nat → Prop} {a b : World} (h : Ext a b) : OnS S a b := OnS.weaken h fun _ _ _ => trivial
theorem OnS.old {S : Nat → Prop} {a b : World} (h : OnS S a b) (hs : ∀ k, k < a.heap.size → S k) : Ext a b := OnS.weaken h fun k hk _ => hs k hk
theorem OnS.andThen {S : Nat → Prop} {a b c : World} (h : OnS S a b) (k : Ext b c) : OnS S a c := h.trans (OnS.ext k)
/-- First S stays, then all but what has come since. -/
theorem OnS.since {S S' : Nat → Prop} {a b c : World} (h : OnS S a b) (k : OnS S' b c) (hs : ∀ i, i < a.heap.size → S i → S' i) : OnS S a c :=
  ⟨k.os.trans h.os, k.tape.trans h.tape, k.output.trans h.output, Nat.le_trans h.size k.size,
   fun i hi h1 => (k.block i (Nat.lt_of_lt_of_le hi h.size) (hs i hi h1)).trans (h.block i hi h1)⟩
theorem OnS.below {w w' : World} (h : Ext w w') : Below w.heap.size w w' := ⟨h.os, h.tape, h.output, h.size, fun k hk => h.block k hk trivial⟩
theorem OnS.of_below {w w' : World} {B : Nat} (h : Below B w w') : OnS (· < B) w w' := ⟨h.os, h.tape, h.output, h.size, fun k _ hk => h.block k hk⟩
theorem OnS.alloc (w : World) (o : Obj) : Ext w (w.alloc o) := ⟨rfl, rfl, rfl, by simp, fun k hk _ => Below.heap_alloc w o k hk⟩
theorem OnS.drew (w : World) : Ext w w.drew := ⟨rfl, rfl, rfl, Nat.le_refl _, fun _ _ _ => rfl⟩
theorem OnS.drewN (w : World) (n : Nat) : Ext w (w.drewN n) := ⟨rfl, rfl, rfl, Nat.le_refl _, fun _ _ _ => rfl⟩
theorem OnS.setCell (w : World) (a : Addr) (v : Value) : OnS (· ≠ a.block) w (w.setCell a v) :=
  ⟨rfl, rfl, rfl, by simp [World.setCell], fun k _ hk => Below.heap_setCell w a v k hk⟩
theorem OnS.cell {S : Nat → Prop} {w w' : World} (h : OnS S w w') {a : Addr} {v : Value} (hc : w.cell? a = some v) (hs : S a.block) : w'.cell? a = some v :=
  (World.cell?_of_block (h.block a.block (World.block_lt_of_cell? w a hc) hs)).trans hc
theorem OnS.frozen {S : Nat → Prop} {w w' : World} (h : OnS S w w') {a : Addr} (hlt : a.block < w.heap.size) (hs : S a.block) : w'.frozen? a = w.frozen? a :=
  World.frozen?_of_block (h.block a.block hlt hs)
theorem OnS.grown {S : Nat → Prop} {w w' : World} {row : Option Nat} (hg : w.grownBy w' row) (hs : ∀ k, S k → some k ≠ row) : OnS S w w' :=
  ⟨hg.os, hg.tape, hg.output, hg.size, fun k hk hk' => hg.block k hk (hs k hk')⟩

/-- A block of cells of one's own, known whole. -/
structure Bx (w : World) (b : Nat) (t : TypeId) (cs : List Value) : Prop where
  blk : w.heap[b]? = some (.cells cs.toArray t (0, 0))
theorem Bx.lt {w : World} {b : Nat} {t : TypeId} {cs : List Value} (h : Bx w b t cs) : b < w.heap.size := (Array.getElem?_eq_some_iff.1 h.blk).1
theorem Bx.new (w : World) (cs : List Value) (t : TypeId) : Bx (w.alloc (.cells cs.toArray t)) w.heap.size t cs := ⟨heap_alloc_new w _⟩
theorem Bx.cell {w : World} {b : Nat} {t : TypeId} {cs : List Value} (h : Bx w b t cs) (j : Nat) : w.cell? ⟨b, j, none⟩ = cs[j]? := by
  simp [World.cell?, h.blk]
theorem Bx.frozen {w : World} {b : Nat} {t : TypeId} {cs : List Value} (h : Bx w b t cs) (j : Nat) : w.frozen? ⟨b, j, none⟩ = false := by
  simp [World.frozen?, h.blk]
theorem Bx.to {S : Nat → Prop} {w w' : World} {b : Nat} {t : TypeId} {cs : List Value} (h : Bx w b t cs) (k : OnS S w w') (hs : S b) : Bx w' b t cs :=
  ⟨(k.block b h.lt hs).trans h.blk⟩
theorem Bx.set {w : World} {b : Nat} {t : TypeId} {cs : List Value} (h : Bx w b t cs) (j : Nat) (v : Value) : Bx (w.setCell ⟨b, j, none⟩ v) b t (cs.set j v) := by
  refine ⟨?_⟩
  simp [World.setCell, Array.getElem?_modify, h.blk]

/-- A kind of data: how many cells, how many bytes; when cells read as it. -/
structure Ty (α : Type) where
  size : Nat
  bytes : Nat
  enc : (Nat → Prop) → World → List Value → α → Prop
  len : ∀ {S w cs a}, enc S w cs a → cs.length = size
  one : ∀ {S w cs a}, enc S w cs a → ∀ v ∈ cs, v.oneCell' = true
  mono : ∀ {S w w' cs a}, OnS S w w' → enc S w cs a → enc S w' cs a
  weaken : ∀ {S S' : Nat → Prop} {w cs a}, (∀ k, k < w.heap.size → S k → S' k) → enc S w cs a → enc S' w cs a

/-- Whole numbers of a kind. -/
def tInt (k : IntKind) (by_ : Nat) : Ty Int where
  size := 1
  bytes := by_
  enc := fun _ _ cs a => cs = [.int k a] ∧ k.min ≤ a ∧ a ≤ k.max
  len := by rintro _ _ _ _ ⟨rfl, _⟩; rfl
  one := by rintro _ _ _ _ ⟨rfl, _⟩ v hv; simp at hv; subst hv; rfl
  mono := fun _ h => h
  weaken := fun _ h => h
abbrev tU8 : Ty Int := tInt .u8 1
abbrev tU64 : Ty Int := tInt .u64 8

/-- The cells of a list of data. -/
def Encs {α : Type} (S : Nat → Prop) (w : World) (T : Ty α) (cs : List Value) (xs : List α) : Prop :=
  cs.length = xs.length * T.size ∧ ∀ i (h : i < xs.length), T.enc S w ((cs.drop (i * T.size)).take T.size) xs[i]

theorem Encs.mono {α : Type} {S : Nat → Prop} {w w' : World} {T : Ty α} {cs : List Value} {xs : List α} (h : Encs S w T cs xs) (k : OnS S w w') : Encs S w' T cs xs :=
  ⟨h.1, fun i hi => T.mono k (h.2 i hi)⟩
theorem Encs.weaken {α : Type} {S S' : Nat → Prop} {w : World} {T : Ty α} {cs : List Value} {xs : List α} (h : Encs S w T cs xs) (hs : ∀ k, k < w.heap.size → S k → S' k) : Encs S' w T cs xs :=
  ⟨h.1, fun i hi => T.weaken hs (h.2 i hi)⟩
theorem Encs.nil {α : Type} (S : Nat → Prop) (w : World) (T : Ty α) : Encs S w T [] [] := ⟨by simp, fun i h => by simp at h⟩
theorem Encs.append {α : Type} {S : Nat → Prop} {w : World} {T : Ty α} {cs ds : List Value} {xs ys : List α} (h : Encs S w T cs xs) (k : Encs S w T ds ys) : Encs S w T (cs ++ ds) (xs ++ ys) := by
  refine ⟨by simp [h.1, k.1, Nat.add_mul], fun i hi => ?_⟩
  rcases Nat.lt_or_ge i xs.length with h1 | h1
  · have h2 := h.2 i h1
    have hle : i * T.size + T.size ≤ cs.length := by rw [h.1, ← Nat.succ_mul]; exact Nat.mul_le_mul_right _ h1
    rw [List.drop_append_of_le_length (by omega), List.take_append_of_le_length (by simp; omega)]
    simpa [List.getElem_append_left h1] using h2
  · have h3 : i - xs.length < ys.length := by simp at hi; omega
    have h2 := k.2 (i - xs.length) h3
    have he : i * T.size = cs.length + (i - xs.length) * T.size := by rw [h.1, ← Nat.add_mul]; congr 1; omega
    rw [he, ← List.drop_drop, List.drop_left]
    simpa [List.getElem_append_right h1] using h2
theorem Encs.single {α : Type} {S : Nat → Prop} {w : World} {T : Ty α} {cs : List Value} {x : α} (h : T.enc S w cs x) : Encs S w T cs [x] := by
  refine ⟨by simp [T.len h], fun i hi => ?_⟩
  obtain rfl : i = 0 := by simpa using hi
  have := T.len h
  simpa [List.take_of_length_le (Nat.le_of_eq this)] using h
theorem Encs.take {α : Type} {S : Nat → Prop} {w : World} {T : Ty α} {cs : List Value} {xs : List α} (h : Encs S w T cs xs) (n : Nat) : Encs S w T (cs.take (n * T.size)) (xs.take n) := by
  refine ⟨by rw [List.length_take, List.length_take, h.1, Nat.min_def, Nat.min_def]; split <;> split <;> first | rfl | (rename_i a b; exact absurd (Nat.mul_le_mul_right T.size b) a) | (rename_i a b; have := Nat.mul_le_mul_right T.size (Nat.le_of_lt (Nat.lt_of_not_le b)); omega), fun i hi => ?_⟩
  have h1 : i < xs.length := by simp at hi; omega
  have h1n : i < n := by simp at hi; omega
  have h2 := h.2 i h1
  have hle : i * T.size + T.size ≤ n * T.size := by rw [← Nat.succ_mul]; exact Nat.mul_le_mul_right _ h1n
  rw [List.drop_take, List.take_take, Nat.min_eq_left (by omega)]
  simpa using h2
theorem Encs.drop {α : Type} {S : Nat → Prop} {w : World} {T : Ty α} {cs : List Value} {xs : List α} (h : Encs S w T cs xs) (n : Nat) : Encs S w T (cs.drop (n * T.size)) (xs.drop n) := by
  refine ⟨by simp [h.1, Nat.sub_mul], fun i hi => ?_⟩
  have h1 : n + i < xs.length := by simp at hi; omega
  have h2 := h.2 (n + i) h1
  rw [List.drop_drop, ← Nat.add_mul]
  simpa using h2
theorem Encs.one {α : Type} {S : Nat → Prop} {w : World} {T : Ty α} {cs : List Value} {xs : List α} (h : Encs S w T cs xs) (hp : 0 < T.size) : ∀ v ∈ cs, v.oneCell' = true := by
  intro v hv
  obtain ⟨j, hj, rfl⟩ := List.getElem_of_mem hv
  have hd : j / T.size < xs.length := by rw [Nat.div_lt_iff_lt_mul hp, ← h.1]; exact hj
  have h2 := T.one (h.2 _ hd)
  refine h2 _ ?_
  have hm : j % T.size < T.size := Nat.mod_lt _ hp
  have hdm := Nat.div_add_mod j T.size
  rw [Nat.mul_comm] at hdm
  refine List.mem_iff_getElem.2 ⟨j % T.size, by simp; omega, ?_⟩
  simp [hdm]

/-- A slice that reads as a list. -/
structure SR {α : Type} (S : Nat → Prop) (w : World) (T : Ty α) (A : Option Addr) (n c : Nat) (xs : List α) : Prop where
  len : xs.length = n
  cap : n ≤ c
  bytes : n * T.bytes ≤ 140737488355328
  small : n ≤ 140737488355328
  nil : A = none → c = 0
  cells : ∃ cs, Encs S w T cs xs ∧ ∀ ad, A = some ad → 0 < n → S ad.block ∧ ad.spot = none ∧ ∀ j, j < cs.length → w.cell? (ad.add j) = cs[j]?

section
variable {α : Type} {S S' : Nat → Prop} {w w' : World} {T : Ty α} {A : Option Addr} {n c : Nat} {xs : List α}

theorem SR.mono (h : SR S w T A n c xs) (k : OnS S w w') : SR S w' T A n c xs := by
  obtain ⟨h1, h2, h3, h3', h4, cs, h5, h6⟩ := h
  refine ⟨h1, h2, h3, h3', h4, cs, h5.mono k, fun ad ha hn => ?_⟩
  obtain ⟨h7, h8, h9⟩ := h6 ad ha hn
  refine ⟨h7, h8, fun j hj => ?_⟩
  have h10 := h9 j hj
  rw [List.getElem?_eq_getElem hj] at h10 ⊢
  exact k.cell h10 (by unfold Addr.add; split <;> exact h7)
theorem SR.weaken (h : SR S w T A n c xs) (hp : 0 < T.size) (hs : ∀ k, k < w.heap.size → S k → S' k) : SR S' w T A n c xs := by
  obtain ⟨h1, h2, h3, h3', h4, cs, h5, h6⟩ := h
  refine ⟨h1, h2, h3, h3', h4, cs, h5.weaken hs, fun ad ha hn => ?_⟩
  obtain ⟨h7, h8, h9⟩ := h6 ad ha hn
  have hc : 0 < cs.length := by rw [h5.1, h1]; exact Nat.mul_pos hn hp
  have h10 := h9 0 hc
  rw [List.getElem?_eq_getElem hc] at h10
  have hlt := World.block_lt_of_cell? w _ h10
  refine ⟨hs _ (by simpa [Addr.add] using hlt) h7, h8, h9⟩
theorem SR.nils (S : Nat → Prop) (w : World) (T : Ty α) : SR S w T none 0 0 [] :=
  ⟨rfl, Nat.le_refl _, by simp, by omega, fun _ => rfl, [], Encs.nil S w T, fun _ h => by cases h⟩
theorem SR.addr (h : SR S w T A n c xs) (hc : 0 < c) : ∃ ad, A = some ad := by
  cases A with
  | none => have := h.nil rfl; omega
  | some ad => exact ⟨ad, rfl⟩
/-- What an element's cells are. -/
theorem SR.at (h : SR S w T A n c xs) (i : Nat) (hi : i < n) : ∃ ad cs, A = some ad ∧ S ad.block ∧ T.enc S w cs (xs[i]'(by rw [h.len]; exact hi)) ∧
    ∀ j, j < cs.length → w.cell? ((ad.add (i * T.size)).add j) = cs[j]? := by
  obtain ⟨h1, h2, h3, h3', h4, cs, h5, h6⟩ := h
  cases A with
  | none => have := h4 rfl; omega
  | some ad =>
    obtain ⟨h7, h8, h9⟩ := h6 ad rfl (by omega)
    have hx : i < xs.length := by omega
    refine ⟨ad, _, rfl, h7, h5.2 i hx, fun j hj => ?_⟩
    simp only [List.length_take, List.length_drop] at hj
    have hadd : (ad.add (i * T.size)).add j = ad.add (i * T.size + j) := by
      obtain ⟨b, o, s⟩ := ad
      simp only at h8
      subst h8
      unfold Addr.add
      by_cases e1 : i * T.size = 0 <;> by_cases e2 : j = 0 <;> simp [e1, e2, Nat.add_assoc]
    rw [hadd, h9 _ (by omega)]
    simp [show j < T.size by omega, List.getElem?_drop]

theorem SR.take (h : SR S w T A n c xs) (m : Nat) (hm : m ≤ n) : SR S w T A m c (xs.take m) := by
  obtain ⟨h1, h2, h3, h3', h4, cs, h5, h6⟩ := h
  refine ⟨by simp; omega, by omega, Nat.le_trans (Nat.mul_le_mul_right _ hm) h3, by omega, h4, _, h5.take m, fun ad ha hn => ?_⟩
  obtain ⟨h7, h8, h9⟩ := h6 ad ha (by omega)
  refine ⟨h7, h8, fun j hj => ?_⟩
  simp only [List.length_take] at hj
  rw [h9 j (by omega), List.getElem?_take, if_pos (by omega)]
theorem SR.drop (h : SR S w T A n c xs) (m : Nat) (hm : m ≤ n) : SR S w T (if c = m then A else A.map (·.add (m * T.size))) (n - m) (c - m) (xs.drop m) := by
  obtain ⟨h1, h2, h3, h3', h4, cs, h5, h6⟩ := h
  refine ⟨by simp; omega, by omega, Nat.le_trans (Nat.mul_le_mul_right _ (Nat.sub_le _ _)) h3, by omega, fun e => ?_, _, h5.drop m, fun ad ha hn => ?_⟩
  · split at e
    · omega
    · cases A with
      | none => have := h4 rfl; omega
      | some ad => simp at e
  · rw [if_neg (by omega)] at ha
    cases A with
    | none => simp at ha
    | some ad0 =>
      simp only [Option.map_some, Option.some.injEq] at ha
      subst ha
      obtain ⟨h7, h8, h9⟩ := h6 ad0 rfl (by omega)
      obtain ⟨b, o, s⟩ := ad0
      simp only at h8
      subst h8
      refine ⟨by unfold Addr.add; split <;> exact h7, by unfold Addr.add; split <;> rfl, fun j hj => ?_⟩
      have hadd : ((⟨b, o, none⟩ : Addr).add (m * T.size)).add j = (⟨b, o, none⟩ : Addr).add (m * T.size + j) := by
        unfold Addr.add
        by_cases e1 : m * T.size = 0 <;> by_cases e2 : j = 0 <;> simp [e1, e2, Nat.add_assoc]
      simp only [List.length_drop] at hj
      rw [hadd, h9 _ (by omega)]
      simp [List.getElem?_drop]
end
end Go.Proofs.Ytikekdifipacmaa
