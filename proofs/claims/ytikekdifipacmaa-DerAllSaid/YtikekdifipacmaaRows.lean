/-
  No cell of these rows narrows 'for every input' (looked for: loops, veiled, ifaces, maps, wideKeys, modest, calm, conditions, laid).
  DERIVED. THE GIVEN ROWS OF THIS SEAT. 4 by the template 'for every input the law returns true; each argument reads behind the call as it read before'; 0 by the template 'total and deterministic' (their statements: YtikekdifipacmaaTotals.lean).
  GIVEN WITH THE SEED: the statements are not yours to turn. If you find one false, say at which input.
  Laid BY PROGRAM, IN A SANDBOX (cutbox-rows.mjs): the forced cells as the released guide's own fill.sh prints them over the translation e8f5eda1c998efb6… (all of the seat's roots in one cut). By AI agents, Wed Nov 11 2026. No macro, syntax, notation, axiom, sorry.
-/
import Derived.Test.YtikekdifipacmaaChecked
import GoSem.Claim
import GoSem.ClaimJoined
import GoSem.ClaimMapViews
import Derived.JoinedTies
import Derived.KernelRfl
namespace Go.Proofs.Ytikekdifipacmaa
/- THE CELL 'sum', in the pinned program and in every row, IS THE sha256 OF THE DUMP (.gsa) THAT YtikekdifipacmaaProg.lean LOADS. Nothing in Lean hashes anything: it is a label: what it is worth is what the hold of that sum in a sandbox is worth. -/
noncomputable def Try.pinned : Pinned := { name := "ytikekdifipacmaa", sum := "e8f5eda1c998efb610418206585cf39b6af378e992545a02f33c13ebed43f367", checked := Try.checked }
namespace Rows
def none {H : Type} : Left H := { results := [], args := [] }

/-- 'latchkeylaw10.DerDays': WHATEVER THE INPUT: true; the input reads as it did. -/
def derDaysSpec : ChangeSpec := { name := "derDays", fn := fun _ => fun
  | [d1, d2] => { results := [.lit (.bool true)], args := [d1, d2] }
  | _ => none }
def derDaysRow : OpenClaim := { program := "ytikekdifipacmaa", sum := "e8f5eda1c998efb610418206585cf39b6af378e992545a02f33c13ebed43f367", func := "latchkey/latchkeylaw10.DerDays", spec := "derDays", unfollowed := true, recurses := true, apart := false }
def DerDaysSaid : Prop := derDaysRow.holds Try.pinned (OpenSpec.ofChange derDaysSpec)

/-- ITS FALSE NEIGHBOUR: 'it returns false'. Refute it at one input. -/
def derDaysWrong : ChangeSpec := { name := "derDays", fn := fun _ => fun
  | [d1, d2] => { results := [.lit (.bool false)], args := [d1, d2] }
  | _ => none }
def DerDaysWrongFalsely : Prop := derDaysRow.holds Try.pinned (OpenSpec.ofChange derDaysWrong)

/-- 'latchkeylaw10.DerAll': WHATEVER THE INPUT: true; the input reads as it did. -/
def derAllSpec : ChangeSpec := { name := "derAll", fn := fun _ => fun
  | [d1, d2] => { results := [.lit (.bool true)], args := [d1, d2] }
  | _ => none }
def derAllRow : OpenClaim := { program := "ytikekdifipacmaa", sum := "e8f5eda1c998efb610418206585cf39b6af378e992545a02f33c13ebed43f367", func := "latchkey/latchkeylaw10.DerAll", spec := "derAll", unfollowed := true, recurses := true, apart := false }
def DerAllSaid : Prop := derAllRow.holds Try.pinned (OpenSpec.ofChange derAllSpec)

/-- ITS FALSE NEIGHBOUR: 'it returns false'. Refute it at one input. -/
def derAllWrong : ChangeSpec := { name := "derAll", fn := fun _ => fun
  | [d1, d2] => { results := [.lit (.bool false)], args := [d1, d2] }
  | _ => none }
def DerAllWrongFalsely : Prop := derAllRow.holds Try.pinned (OpenSpec.ofChange derAllWrong)

/-- 'latchkeylaw10.DerReads': WHATEVER THE INPUT: true; the input reads as it did. -/
def derReadsSpec : ChangeSpec := { name := "derReads", fn := fun _ => fun
  | [d] => { results := [.lit (.bool true)], args := [d] }
  | _ => none }
def derReadsRow : OpenClaim := { program := "ytikekdifipacmaa", sum := "e8f5eda1c998efb610418206585cf39b6af378e992545a02f33c13ebed43f367", func := "latchkey/latchkeylaw10.DerReads", spec := "derReads", unfollowed := true, recurses := true, apart := false }
def DerReadsSaid : Prop := derReadsRow.holds Try.pinned (OpenSpec.ofChange derReadsSpec)

/-- ITS FALSE NEIGHBOUR: 'it returns false'. Refute it at one input. -/
def derReadsWrong : ChangeSpec := { name := "derReads", fn := fun _ => fun
  | [d] => { results := [.lit (.bool false)], args := [d] }
  | _ => none }
def DerReadsWrongFalsely : Prop := derReadsRow.holds Try.pinned (OpenSpec.ofChange derReadsWrong)

/-- 'latchkeylaw10.DerJoins': WHATEVER THE INPUT: true; the input reads as it did. -/
def derJoinsSpec : ChangeSpec := { name := "derJoins", fn := fun _ => fun
  | [d] => { results := [.lit (.bool true)], args := [d] }
  | _ => none }
def derJoinsRow : OpenClaim := { program := "ytikekdifipacmaa", sum := "e8f5eda1c998efb610418206585cf39b6af378e992545a02f33c13ebed43f367", func := "latchkey/latchkeylaw10.DerJoins", spec := "derJoins", unfollowed := true, recurses := true, apart := false }
def DerJoinsSaid : Prop := derJoinsRow.holds Try.pinned (OpenSpec.ofChange derJoinsSpec)

/-- ITS FALSE NEIGHBOUR: 'it returns false'. Refute it at one input. -/
def derJoinsWrong : ChangeSpec := { name := "derJoins", fn := fun _ => fun
  | [d] => { results := [.lit (.bool false)], args := [d] }
  | _ => none }
def DerJoinsWrongFalsely : Prop := derJoinsRow.holds Try.pinned (OpenSpec.ofChange derJoinsWrong)

/- THE SECOND FORM. 'bulk': how many values and letters a reading holds, each counted each time it is reached (what is shared counts as often as it is met; a slice's spare places count too). A statement '..UptoSaid' is the law's where the arguments, and the package variables that the reading takes, are together of bulk at most 1048576: NARROWER than '..Said'. Prove '..Said' where nothing that the law and all that it calls make is longer than what came in: it says more and counts as full. Else prove '..UptoSaid'. A law counts once. -/
mutual
def uptoBulk {H : Type} : DataW H → Nat
  | .lit (.string bytes) => bytes.length + 1
  | .lit _ => 1
  | .nil => 1
  | .ptr d => uptoBulk d + 1
  | .slice elems spare => uptoBulkAll elems + uptoBulkAll spare + 1
  | .agg parts => uptoBulkAll parts + 1
  | .iface _ d => uptoBulk d + 1
  | .map entries => uptoBulkEntries entries + 1
  | .held _ => 1
def uptoBulkAll {H : Type} : List (DataW H) → Nat
  | [] => 0
  | d :: r => uptoBulk d + uptoBulkAll r
def uptoBulkEntries {H : Type} : List (Lit × DataW H) → Nat
  | [] => 0
  | x :: r => uptoBulkEntry x + uptoBulkEntries r
def uptoBulkEntry {H : Type} : Lit × DataW H → Nat
  | (.string bytes, d) => bytes.length + uptoBulk d + 1
  | (_, d) => uptoBulk d + 1
 end
def uptoSmall : (H : Type) → List (DataW H) → Bool := fun _ ds => decide (uptoBulkAll ds ≤ 1048576)
def OpenSpec.upto (s : _root_.Go.ChangeSpec) : _root_.Go.OpenSpec := { _root_.Go.OpenSpec.ofChange s with cond := some uptoSmall }

/-- 'latchkeylaw10.DerDays', WHERE WHAT IT READS IS OF BULK AT MOST 1048576: true; the input reads as it did. -/
def derDaysUptoRow : OpenClaim := { program := "ytikekdifipacmaa", sum := "e8f5eda1c998efb610418206585cf39b6af378e992545a02f33c13ebed43f367", func := "latchkey/latchkeylaw10.DerDays", spec := "derDays", unfollowed := true, recurses := true, apart := false, narrowed := true }
def DerDaysUptoSaid : Prop := derDaysUptoRow.holds Try.pinned (OpenSpec.upto derDaysSpec)

/-- 'latchkeylaw10.DerAll', WHERE WHAT IT READS IS OF BULK AT MOST 1048576: true; the input reads as it did. -/
def derAllUptoRow : OpenClaim := { program := "ytikekdifipacmaa", sum := "e8f5eda1c998efb610418206585cf39b6af378e992545a02f33c13ebed43f367", func := "latchkey/latchkeylaw10.DerAll", spec := "derAll", unfollowed := true, recurses := true, apart := false, narrowed := true }
def DerAllUptoSaid : Prop := derAllUptoRow.holds Try.pinned (OpenSpec.upto derAllSpec)

/-- 'latchkeylaw10.DerReads', WHERE WHAT IT READS IS OF BULK AT MOST 1048576: true; the input reads as it did. -/
def derReadsUptoRow : OpenClaim := { program := "ytikekdifipacmaa", sum := "e8f5eda1c998efb610418206585cf39b6af378e992545a02f33c13ebed43f367", func := "latchkey/latchkeylaw10.DerReads", spec := "derReads", unfollowed := true, recurses := true, apart := false, narrowed := true }
def DerReadsUptoSaid : Prop := derReadsUptoRow.holds Try.pinned (OpenSpec.upto derReadsSpec)

/-- 'latchkeylaw10.DerJoins', WHERE WHAT IT READS IS OF BULK AT MOST 1048576: true; the input reads as it did. -/
def derJoinsUptoRow : OpenClaim := { program := "ytikekdifipacmaa", sum := "e8f5eda1c998efb610418206585cf39b6af378e992545a02f33c13ebed43f367", func := "latchkey/latchkeylaw10.DerJoins", spec := "derJoins", unfollowed := true, recurses := true, apart := false, narrowed := true }
def DerJoinsUptoSaid : Prop := derJoinsUptoRow.holds Try.pinned (OpenSpec.upto derJoinsSpec)

end Rows
end Go.Proofs.Ytikekdifipacmaa
