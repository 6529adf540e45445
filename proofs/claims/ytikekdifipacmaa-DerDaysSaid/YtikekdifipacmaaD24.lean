/- Strings as bytes: '[]byte(s)' reads as the string's bytes. -/
import Derived.Test.YtikekdifipacmaaD21
import Derived.Lib.ConvBytes
namespace Go.Proofs.Ytikekdifipacmaa
open Go.RowKit

theorem Ext.bytesWorld (w : World) (e : TypeId) (s : ByteArray) : Ext w (Lib.bytesWorld w e s) :=
  ⟨rfl, rfl, rfl, by rw [Lib.bytesWorld_size]; omega, fun k hk _ => Lib.bytesWorld_at_old w e s k hk⟩

theorem SR.ofStr {S : Nat → Prop} (w : World) (xs : List Int) (h : ∀ x ∈ xs, 0 ≤ x ∧ x ≤ 255) (hs : xs.length ≤ 140737488355328) (hS : S w.heap.size) :
    SR S (Lib.bytesWorld w 5 (strOfNums xs)) tU8 (some ⟨w.heap.size, 0, none⟩) xs.length (grownCap w (strOfNums xs).size 0 5) xs := by
  have hz : (strOfNums xs).size = xs.length := strOfNums_size xs
  refine ⟨rfl, by rw [hz]; exact grownCap_ge _ _ _ _, by simp [tInt]; omega, hs, fun e => (by cases e), _, Encs.u8s _ _ xs h, fun ad ha _ => ?_⟩
  cases ha
  refine ⟨hS, rfl, fun j hj => ?_⟩
  have hj' : j < xs.length := by simpa using hj
  have e : (⟨w.heap.size, 0, none⟩ : Addr).add j = ⟨w.heap.size, j, none⟩ := by
    unfold Addr.add
    by_cases h0 : j = 0 <;> simp [h0]
  rw [e, Lib.bytesWorld_cell w 5 _ j (by rw [hz]; exact hj'), strOfNums_data]
  have hx := h xs[j] (List.getElem_mem _)
  simp only [List.getD_eq_getElem?_getD, List.getElem?_map, List.getElem?_eq_getElem hj', Option.map_some, Option.getD_some]
  congr 2
  rw [UInt8.toNat_ofNat']
  omega

theorem digs_append (a b : List Int) : digs a ++ digs b = digs (a ++ b) := by
  unfold digs
  rw [List.map_append]
  apply ByteArray.ext
  simp [strOfNums]
theorem digs_Z (a : List Int) : digs a ++ { data := #[90] } = strOfNums (a.map (48 + ·) ++ [90]) := by
  unfold digs
  apply ByteArray.ext
  simp [strOfNums]

theorem digs_Z2 (a b : List Int) : digs a ++ strOfNums (b.map (48 + ·) ++ [90]) = strOfNums ((a ++ b).map (48 + ·) ++ [90]) := by
  unfold digs
  apply ByteArray.ext
  simp [strOfNums]
/-- What stands written for a second of a day. -/
def stamp (y m dd s : Int) : List Int := dg (y % 100) ++ dg (m + 1) ++ dg (dd + 1) ++ dg (s / 3600) ++ dg (s / 60 % 60) ++ dg (s % 60)
theorem stamp_len (y m dd s : Int) : (stamp y m dd s).length = 12 := rfl
theorem dg_range {v : Int} (h0 : 0 ≤ v) (h1 : v ≤ 99) : ∀ x ∈ dg v, 0 ≤ x ∧ x ≤ 9 := by
  intro x hx
  simp only [dg, List.mem_cons, List.not_mem_nil, or_false] at hx
  omega
theorem stamp_range {y m dd s : Int} (hm0 : 0 ≤ m) (hm : m ≤ 11) (hd0 : 0 ≤ dd) (hd : dd ≤ 30) (hs0 : 0 ≤ s) (hs : s < 86400) : ∀ x ∈ stamp y m dd s, 0 ≤ x ∧ x ≤ 9 := by
  intro x hx
  simp only [stamp, List.mem_append] at hx
  rcases hx with ((((h | h) | h) | h) | h) | h <;> exact dg_range (by omega) (by omega) x h
theorem stamp_pairs (y m dd s : Int) : pairs (stamp y m dd s) = [y % 100, m + 1, dd + 1, s / 3600, s / 60 % 60, s % 60] := by
  simp only [stamp, dg, List.cons_append, List.nil_append, pairs]
  congr 1
  · omega
  congr 1
  · omega
  congr 1
  · omega
  congr 1
  · omega
  congr 1
  · omega
  congr 1
  omega
theorem stamp4_pairs (y m dd s : Int) : pairs (dg (y / 100) ++ stamp y m dd s) = [y / 100, y % 100, m + 1, dd + 1, s / 3600, s / 60 % 60, s % 60] := by
  have h := stamp_pairs y m dd s
  simp only [dg, List.cons_append, List.nil_append, pairs, h]
  congr 1
  omega
theorem zs_range {ds : List Int} (h : ∀ x ∈ ds, 0 ≤ x ∧ x ≤ 9) : ∀ x ∈ ds.map (48 + ·) ++ [90], 0 ≤ x ∧ x ≤ 255 := by
  intro x hx
  simp only [List.mem_append, List.mem_map, List.mem_singleton] at hx
  rcases hx with ⟨y, hy, rfl⟩ | rfl
  · have := h y hy; omega
  · omega
/-- What 'write' answers. -/
def Wrote (w w' : World) (e : Ending) (y m dd s : Int) : Prop :=
  ∃ A c, (if y < 2050 then e = .returned (.agg #[.int .u8 23, .slice A 13 c]) ∧ SR (fun _ => True) w' tU8 A 13 c ((stamp y m dd s).map (48 + ·) ++ [90])
    else e = .returned (.agg #[.int .u8 24, .slice A 15 c]) ∧ SR (fun _ => True) w' tU8 A 15 c ((dg (y / 100) ++ stamp y m dd s).map (48 + ·) ++ [90])) ∧ Ext w w'
end Go.Proofs.Ytikekdifipacmaa
