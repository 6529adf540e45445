/-
  DERIVED. GIVEN WITH THE SEED: THE CARDS: each row of YtljmdeoamkmloaaDoorRows.lean that lists a variable, with what it lists TIED to the program's text (the seventh form; the later family's looks); each row that meets fmt, with fmt's text TOLD by the authors' own Lean function (tested against real Go, not proved from fmt's source: count such statements apart). THE CARD IS WHAT COUNTS. Prove the row's statement (the work); the ties are given (YtljmdeoamkmloaaDoorTie.lean); close each card by the builder's one call (the guide's Derived/Test/ToyasCard.lean, 'card_holds'). Laid BY PROGRAM, IN A SANDBOX (cutbox-door.mjs). By AI agents, Wed Nov 11 2026. No macro, syntax, notation, axiom, sorry.
-/
import Derived.Test.YtljmdeoamkmloaaDoorRows
import GoSem.ClaimSeven
namespace Go.Proofs.YtljmdeoamkmloaaDoor
namespace Rows

/-- THE TIED CARD OF 'latchkeylaw15.AuthdParses'. -/
def authdParsesCard : Claim7 := { stood := { row := authdParsesRow, standIns := [], harness := (true, "e18cb8d721aadaafd49a687e5dc9bc5fd5bcad558ba8130b750c75ab3c39c2f7"), looks := false }, kinds := [], alts := [], laidByText := true, laidKinds := [.data, .pinned], laidTests := true, laidLooks := .later }
def AuthdParsesCardSaid : Prop := Claim7.holds Tryd.pinned (.plain (OpenSpec.ofChange authdParsesSpec)) authdParsesCard

/-- THE TIED CARD OF 'latchkeylaw15.AuthdFlags'. -/
def authdFlagsCard : Claim7 := { stood := { row := authdFlagsRow, standIns := [], harness := (true, "e18cb8d721aadaafd49a687e5dc9bc5fd5bcad558ba8130b750c75ab3c39c2f7"), looks := false }, kinds := [], alts := [], laidByText := true, laidKinds := [.data, .pinned], laidTests := true, laidLooks := .later }
def AuthdFlagsCardSaid : Prop := Claim7.holds Tryd.pinned (.plain (OpenSpec.ofChange authdFlagsSpec)) authdFlagsCard

/-- THE SECOND FORM's CARD OF 'latchkeylaw15.AuthdParses'. -/
def authdParsesUptoCard : Claim7 := { stood := { row := authdParsesUptoRow, standIns := [], harness := (true, "e18cb8d721aadaafd49a687e5dc9bc5fd5bcad558ba8130b750c75ab3c39c2f7"), looks := false }, kinds := [], alts := [], laidByText := true, laidKinds := [.data, .pinned], laidTests := true, laidLooks := .later }
def AuthdParsesUptoCardSaid : Prop := Claim7.holds Tryd.pinned (.plain (OpenSpec.upto authdParsesSpec)) authdParsesUptoCard

/-- THE SECOND FORM's CARD OF 'latchkeylaw15.AuthdFlags'. -/
def authdFlagsUptoCard : Claim7 := { stood := { row := authdFlagsUptoRow, standIns := [], harness := (true, "e18cb8d721aadaafd49a687e5dc9bc5fd5bcad558ba8130b750c75ab3c39c2f7"), looks := false }, kinds := [], alts := [], laidByText := true, laidKinds := [.data, .pinned], laidTests := true, laidLooks := .later }
def AuthdFlagsUptoCardSaid : Prop := Claim7.holds Tryd.pinned (.plain (OpenSpec.upto authdFlagsSpec)) authdFlagsUptoCard
end Rows
end Go.Proofs.YtljmdeoamkmloaaDoor
