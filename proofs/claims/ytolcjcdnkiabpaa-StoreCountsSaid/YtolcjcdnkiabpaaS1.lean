/- Store: bytes compared. -/
import Derived.Test.YtolcjcdnkiabpaaK13
import Derived.Test.YtolcjcdnkiabpaaK12
import Derived.Test.YtolcjcdnkiabpaaK10
import Derived.Test.YtolcjcdnkiabpaaProg
import Derived.Lib.Bytealg
import Derived.Lib.BytesEntry
import Derived.Laws.Externs
namespace Go.Proofs.Ytolcjcdnkiabpaa
open Go.RowKit

theorem SR.bytesOf {P : Program} {S : Nat → Prop} {w : World} {A : Option Addr} {n c : Nat} {xs : List Int} (H : SR S w tU8 A n c xs) :
    (Extern.Bytes.bytesOf (.slice A n c)).run P w = .ok (strOfNums xs) w := by
  have hl := H.len
  cases A with
  | none =>
    have h0 := H.nil rfl
    have h1 := H.cap
    obtain rfl : xs = [] := List.eq_nil_of_length_eq_zero (by omega)
    rfl
  | some ad =>
    have hc := H.cells8
    simp only [Extern.Bytes.bytesOf]
    rw [← hl]
    have := Lib.run_loadBytesX (P := P) w xs ad .empty (fun j x hj => hc j _ (by rw [List.getElem?_map, hj]; rfl))
    rw [this]
    congr 1
    apply ByteArray.ext
    show (#[] : Array UInt8) ++ (Lib.bytesOf xs).toArray = _
    simp [strOfNums, Lib.bytesOf]
theorem cmp_self (s : ByteArray) : Extern.BytealgCompare.cmp s s = 0 := by
  unfold Extern.BytealgCompare.cmp
  have : (List.range (min s.size s.size)).find? (fun i => s[i]! != s[i]!) = none := by
    rw [List.find?_eq_none]; simp
  rw [this]
  simp

/-- How bytes compare. -/
def cmpB (xs ys : List Int) : Int := Extern.BytealgCompare.cmp (strOfNums xs) (strOfNums ys)
theorem cmpB_self (xs : List Int) : cmpB xs xs = 0 := cmp_self _

set_option maxHeartbeats 1000000 in
theorem compare_any {S S' : Nat → Prop} {A B : Option Addr} {n c m d : Nat} {xs ys : List Int} (w : World) (HA : SR S w tU8 A n c xs) (HB : SR S' w tU8 B m d ys) :
    Calls Try.prog 50 #[.slice A n c, .slice B m d] w fun e w' => e = .returned (.int .i64 (cmpB xs ys)) ∧ w = w' := by
  have hcall : (callFunc 61 #[.slice A n c, .slice B m d]).run Try.prog w = .ok (.value (.int .i64 (cmpB xs ys))) w := by
    rw [run_callFunc_extern Try.func61 (by kernel_rfl) (by kernel_rfl) (by kernel_rfl) (e := Extern.BytealgCompare.compare) (by kernel_rfl)]
    have : (Extern.BytealgCompare.compare #[.slice A n c, .slice B m d]).run Try.prog w = .ok (goInt (cmpB xs ys)) w := by
      change Sem.run Try.prog (do pure (goInt (Extern.BytealgCompare.cmp (← Extern.Bytes.bytesOf (.slice A n c)) (← Extern.Bytes.bytesOf (.slice B m d))))) w = _
      simp only [Sem.run_bind, HA.bytesOf, HB.bytesOf, Result.andThen_ok, Sem.run_pure]
      rfl
    rw [this]
    rfl
  go_enter Try.func50, Try.ntmps50
  repeat' (first | go_values | go_skip | go_guarded | go_step)
  go_ret
  exact ⟨rfl, rfl⟩
end Go.Proofs.Ytolcjcdnkiabpaa
