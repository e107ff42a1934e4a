/-
  DERIVED. GIVEN WITH THE SEED: THE CARDS: each row of YtpkfmikpgfgbgaaDoorRows.lean that lists a variable, with what it lists TIED to the program's text (the seventh form; the later family's looks); each row that meets fmt, with fmt's text TOLD by the authors' own Lean function (tested against real Go, not proved from fmt's source: count such statements apart). THE CARD IS WHAT COUNTS. Prove the row's statement (the work); the ties are given (YtpkfmikpgfgbgaaDoorTie.lean); close each card by the builder's one call (the guide's Derived/Test/ToyasCard.lean, 'card_holds'). Laid BY PROGRAM, IN A SANDBOX (cutbox-door.mjs). By AI agents, Wed Nov 11 2026. No macro, syntax, notation, axiom, sorry.
-/
import Derived.Test.YtpkfmikpgfgbgaaDoorRows
import GoSem.ClaimSeven
namespace Go.Proofs.YtpkfmikpgfgbgaaDoor
namespace Rows

/-- THE TIED CARD OF 'footplatelaw31.TallyCounts'. -/
def tallyCountsCard : Claim7 := { stood := { row := tallyCountsRow, standIns := [], harness := (true, "e2abdad2d31fdc29ef379d22f9a3bdc77bfc89a3d1f61cfad3bb52506b6160f0"), looks := false }, kinds := [], alts := [], laidByText := true, laidKinds := [.data, .data, .data, .data], laidTests := true, laidLooks := .later }
def TallyCountsCardSaid : Prop := Claim7.holds Tryd.pinned (.plain (OpenSpec.ofChange tallyCountsSpec)) tallyCountsCard

/-- THE TIED CARD OF 'footplatelaw31.TallyWhole'. -/
def tallyWholeCard : Claim7 := { stood := { row := tallyWholeRow, standIns := [], harness := (true, "e2abdad2d31fdc29ef379d22f9a3bdc77bfc89a3d1f61cfad3bb52506b6160f0"), looks := false }, kinds := [], alts := [], laidByText := true, laidKinds := [.data, .data, .data, .data], laidTests := true, laidLooks := .later }
def TallyWholeCardSaid : Prop := Claim7.holds Tryd.pinned (.plain (OpenSpec.ofChange tallyWholeSpec)) tallyWholeCard

/-- THE SECOND FORM's CARD OF 'footplatelaw31.TallyCounts'. -/
def tallyCountsUptoCard : Claim7 := { stood := { row := tallyCountsUptoRow, standIns := [], harness := (true, "e2abdad2d31fdc29ef379d22f9a3bdc77bfc89a3d1f61cfad3bb52506b6160f0"), looks := false }, kinds := [], alts := [], laidByText := true, laidKinds := [.data, .data, .data, .data], laidTests := true, laidLooks := .later }
def TallyCountsUptoCardSaid : Prop := Claim7.holds Tryd.pinned (.plain (OpenSpec.upto tallyCountsSpec)) tallyCountsUptoCard

/-- THE SECOND FORM's CARD OF 'footplatelaw31.TallyWhole'. -/
def tallyWholeUptoCard : Claim7 := { stood := { row := tallyWholeUptoRow, standIns := [], harness := (true, "e2abdad2d31fdc29ef379d22f9a3bdc77bfc89a3d1f61cfad3bb52506b6160f0"), looks := false }, kinds := [], alts := [], laidByText := true, laidKinds := [.data, .data, .data, .data], laidTests := true, laidLooks := .later }
def TallyWholeUptoCardSaid : Prop := Claim7.holds Tryd.pinned (.plain (OpenSpec.upto tallyWholeSpec)) tallyWholeUptoCard
end Rows
end Go.Proofs.YtpkfmikpgfgbgaaDoor
