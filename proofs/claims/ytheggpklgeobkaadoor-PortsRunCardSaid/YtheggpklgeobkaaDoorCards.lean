/-
  DERIVED. GIVEN WITH THE SEED: THE CARDS: each row of YtheggpklgeobkaaDoorRows.lean that lists a variable, with what it lists TIED to the program's text (the seventh form; the later family's looks); each row that meets fmt, with fmt's text TOLD by the authors' own Lean function (tested against real Go, not proved from fmt's source: count such statements apart). THE CARD IS WHAT COUNTS. Prove the row's statement (the work); the ties are given (YtheggpklgeobkaaDoorTie.lean); close each card by the builder's one call (the guide's Derived/Test/ToyasCard.lean, 'card_holds'). Laid BY PROGRAM, IN A SANDBOX (cutbox-door.mjs). By AI agents, Wed Nov 11 2026. No macro, syntax, notation, axiom, sorry.
-/
import Derived.Test.YtheggpklgeobkaaDoorRows
import GoSem.ClaimSeven
namespace Go.Proofs.YtheggpklgeobkaaDoor
namespace Rows

/-- THE TIED CARD OF 'footplatelaw16.PortsRun'. -/
def portsRunCard : Claim7 := { stood := { row := portsRunRow, standIns := [], harness := (true, "f4cff9d6b478fdca45cdc18149ffb02805d24ab31f7b944338978f6bf2ebd93e"), looks := false }, kinds := [], alts := [], laidByText := true, laidKinds := [.data, .data, .data], laidTests := true, laidLooks := .later }
def PortsRunCardSaid : Prop := Claim7.holds Tryd.pinned (.plain (OpenSpec.ofChange portsRunSpec)) portsRunCard

/-- THE TIED CARD OF 'footplatelaw16.PortsAgain'. -/
def portsAgainCard : Claim7 := { stood := { row := portsAgainRow, standIns := [], harness := (true, "f4cff9d6b478fdca45cdc18149ffb02805d24ab31f7b944338978f6bf2ebd93e"), looks := false }, kinds := [], alts := [], laidByText := true, laidKinds := [.data, .data, .data], laidTests := true, laidLooks := .later }
def PortsAgainCardSaid : Prop := Claim7.holds Tryd.pinned (.plain (OpenSpec.ofChange portsAgainSpec)) portsAgainCard

/-- THE TIED CARD OF 'footplatelaw16.PortsShow'. -/
def portsShowCard : Claim7 := { stood := { row := portsShowRow, standIns := [], harness := (true, "f4cff9d6b478fdca45cdc18149ffb02805d24ab31f7b944338978f6bf2ebd93e"), looks := false }, kinds := [], alts := [], laidByText := true, laidKinds := [.data, .data, .data], laidTests := true, laidLooks := .later }
def PortsShowCardSaid : Prop := Claim7.holds Tryd.pinned (.plain (OpenSpec.ofChange portsShowSpec)) portsShowCard

/-- THE SECOND FORM's CARD OF 'footplatelaw16.PortsRun'. -/
def portsRunUptoCard : Claim7 := { stood := { row := portsRunUptoRow, standIns := [], harness := (true, "f4cff9d6b478fdca45cdc18149ffb02805d24ab31f7b944338978f6bf2ebd93e"), looks := false }, kinds := [], alts := [], laidByText := true, laidKinds := [.data, .data, .data], laidTests := true, laidLooks := .later }
def PortsRunUptoCardSaid : Prop := Claim7.holds Tryd.pinned (.plain (OpenSpec.upto portsRunSpec)) portsRunUptoCard

/-- THE SECOND FORM's CARD OF 'footplatelaw16.PortsAgain'. -/
def portsAgainUptoCard : Claim7 := { stood := { row := portsAgainUptoRow, standIns := [], harness := (true, "f4cff9d6b478fdca45cdc18149ffb02805d24ab31f7b944338978f6bf2ebd93e"), looks := false }, kinds := [], alts := [], laidByText := true, laidKinds := [.data, .data, .data], laidTests := true, laidLooks := .later }
def PortsAgainUptoCardSaid : Prop := Claim7.holds Tryd.pinned (.plain (OpenSpec.upto portsAgainSpec)) portsAgainUptoCard

/-- THE SECOND FORM's CARD OF 'footplatelaw16.PortsShow'. -/
def portsShowUptoCard : Claim7 := { stood := { row := portsShowUptoRow, standIns := [], harness := (true, "f4cff9d6b478fdca45cdc18149ffb02805d24ab31f7b944338978f6bf2ebd93e"), looks := false }, kinds := [], alts := [], laidByText := true, laidKinds := [.data, .data, .data], laidTests := true, laidLooks := .later }
def PortsShowUptoCardSaid : Prop := Claim7.holds Tryd.pinned (.plain (OpenSpec.upto portsShowSpec)) portsShowUptoCard
end Rows
end Go.Proofs.YtheggpklgeobkaaDoor
