/-
  DERIVED. GIVEN WITH THE SEED: THE CARDS: each row of YtdnjgknnckoagaaDoorRows.lean that lists a variable, with what it lists TIED to the program's text (the seventh form; the later family's looks); each row that meets fmt, with fmt's text TOLD by the authors' own Lean function (tested against real Go, not proved from fmt's source: count such statements apart). THE CARD IS WHAT COUNTS. Prove the row's statement (the work); the ties are given (YtdnjgknnckoagaaDoorTie.lean); close each card by the builder's one call (the guide's Derived/Test/ToyasCard.lean, 'card_holds'). Laid BY PROGRAM, IN A SANDBOX (cutbox-door.mjs). By AI agents, Wed Nov 11 2026. No macro, syntax, notation, axiom, sorry.
-/
import Derived.Test.YtdnjgknnckoagaaDoorRows
import GoSem.ClaimSeven
namespace Go.Proofs.YtdnjgknnckoagaaDoor
namespace Rows

/-- THE TIED CARD OF 'footplatelaw06.DottedTells'. -/
def dottedTellsCard : Claim7 := { stood := { row := dottedTellsRow, standIns := [], harness := (true, "9891ce4b078a670d72400ffdba368cf60fcd6e703fd0983bc1409a0409b45951"), looks := false }, kinds := [], alts := [], laidByText := true, laidKinds := [.data, .data, .data], laidTests := true, laidLooks := .later }
def DottedTellsCardSaid : Prop := Claim7.holds Tryd.pinned (.plain (OpenSpec.ofChange dottedTellsSpec)) dottedTellsCard

/-- THE TIED CARD OF 'footplatelaw06.DottedParses'. -/
def dottedParsesCard : Claim7 := { stood := { row := dottedParsesRow, standIns := [], harness := (true, "9891ce4b078a670d72400ffdba368cf60fcd6e703fd0983bc1409a0409b45951"), looks := false }, kinds := [], alts := [], laidByText := true, laidKinds := [.data, .data, .data], laidTests := true, laidLooks := .later }
def DottedParsesCardSaid : Prop := Claim7.holds Tryd.pinned (.plain (OpenSpec.ofChange dottedParsesSpec)) dottedParsesCard

/-- THE TIED CARD OF 'footplatelaw06.DottedBack'. -/
def dottedBackCard : Claim7 := { stood := { row := dottedBackRow, standIns := [], harness := (true, "9891ce4b078a670d72400ffdba368cf60fcd6e703fd0983bc1409a0409b45951"), looks := false }, kinds := [], alts := [], laidByText := true, laidKinds := [.data, .data, .data], laidTests := true, laidLooks := .later }
def DottedBackCardSaid : Prop := Claim7.holds Tryd.pinned (.plain (OpenSpec.ofChange dottedBackSpec)) dottedBackCard

/-- THE TIED CARD OF 'footplatelaw06.DottedNumbers'. -/
def dottedNumbersCard : Claim7 := { stood := { row := dottedNumbersRow, standIns := [], harness := (true, "9891ce4b078a670d72400ffdba368cf60fcd6e703fd0983bc1409a0409b45951"), looks := false }, kinds := [], alts := [], laidByText := true, laidKinds := [.data, .data, .data], laidTests := true, laidLooks := .later }
def DottedNumbersCardSaid : Prop := Claim7.holds Tryd.pinned (.plain (OpenSpec.ofChange dottedNumbersSpec)) dottedNumbersCard

/-- THE SECOND FORM's CARD OF 'footplatelaw06.DottedTells'. -/
def dottedTellsUptoCard : Claim7 := { stood := { row := dottedTellsUptoRow, standIns := [], harness := (true, "9891ce4b078a670d72400ffdba368cf60fcd6e703fd0983bc1409a0409b45951"), looks := false }, kinds := [], alts := [], laidByText := true, laidKinds := [.data, .data, .data], laidTests := true, laidLooks := .later }
def DottedTellsUptoCardSaid : Prop := Claim7.holds Tryd.pinned (.plain (OpenSpec.upto dottedTellsSpec)) dottedTellsUptoCard

/-- THE SECOND FORM's CARD OF 'footplatelaw06.DottedParses'. -/
def dottedParsesUptoCard : Claim7 := { stood := { row := dottedParsesUptoRow, standIns := [], harness := (true, "9891ce4b078a670d72400ffdba368cf60fcd6e703fd0983bc1409a0409b45951"), looks := false }, kinds := [], alts := [], laidByText := true, laidKinds := [.data, .data, .data], laidTests := true, laidLooks := .later }
def DottedParsesUptoCardSaid : Prop := Claim7.holds Tryd.pinned (.plain (OpenSpec.upto dottedParsesSpec)) dottedParsesUptoCard

/-- THE SECOND FORM's CARD OF 'footplatelaw06.DottedBack'. -/
def dottedBackUptoCard : Claim7 := { stood := { row := dottedBackUptoRow, standIns := [], harness := (true, "9891ce4b078a670d72400ffdba368cf60fcd6e703fd0983bc1409a0409b45951"), looks := false }, kinds := [], alts := [], laidByText := true, laidKinds := [.data, .data, .data], laidTests := true, laidLooks := .later }
def DottedBackUptoCardSaid : Prop := Claim7.holds Tryd.pinned (.plain (OpenSpec.upto dottedBackSpec)) dottedBackUptoCard

/-- THE SECOND FORM's CARD OF 'footplatelaw06.DottedNumbers'. -/
def dottedNumbersUptoCard : Claim7 := { stood := { row := dottedNumbersUptoRow, standIns := [], harness := (true, "9891ce4b078a670d72400ffdba368cf60fcd6e703fd0983bc1409a0409b45951"), looks := false }, kinds := [], alts := [], laidByText := true, laidKinds := [.data, .data, .data], laidTests := true, laidLooks := .later }
def DottedNumbersUptoCardSaid : Prop := Claim7.holds Tryd.pinned (.plain (OpenSpec.upto dottedNumbersSpec)) dottedNumbersUptoCard
end Rows
end Go.Proofs.YtdnjgknnckoagaaDoor
