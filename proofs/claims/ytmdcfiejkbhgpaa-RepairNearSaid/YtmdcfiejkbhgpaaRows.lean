/-
  No cell of these rows narrows 'for every input' (looked for: loops, veiled, ifaces, maps, wideKeys, modest, calm, conditions, laid).
  DERIVED. THE GIVEN ROWS OF THIS SEAT. 9 by the template 'for every input the law returns true; each argument reads behind the call as it read before'; 0 by the template 'total and deterministic' (their statements: YtmdcfiejkbhgpaaTotals.lean).
  GIVEN WITH THE SEED: the statements are not yours to turn. If you find one false, say at which input.
  Laid BY PROGRAM, IN A SANDBOX (cutbox-rows.mjs): the forced cells as the released guide's own fill.sh prints them over the translation 061dd477c7af78ff… (all of the seat's roots in one cut). By AI agents, Wed Nov 11 2026. No macro, syntax, notation, axiom, sorry.
-/
import Derived.Test.YtmdcfiejkbhgpaaChecked
import GoSem.Claim
import GoSem.ClaimJoined
import GoSem.ClaimMapViews
import Derived.JoinedTies
import Derived.KernelRfl
namespace Go.Proofs.Ytmdcfiejkbhgpaa
/- THE CELL 'sum', in the pinned program and in every row, IS THE sha256 OF THE DUMP (.gsa) THAT YtmdcfiejkbhgpaaProg.lean LOADS. Nothing in Lean hashes anything: it is a label: what it is worth is what the hold of that sum in a sandbox is worth. -/
noncomputable def Try.pinned : Pinned := { name := "ytmdcfiejkbhgpaa", sum := "061dd477c7af78ff60706a67eebb72bd86ea4a251e01c38708a8d34ef30354c3", checked := Try.checked }
namespace Rows
def none {H : Type} : Left H := { results := [], args := [] }

/-- 'footplatelaw27.SpfTells': WHATEVER THE INPUT: true; the input reads as it did. -/
def spfTellsSpec : ChangeSpec := { name := "spfTells", fn := fun _ => fun
  | [d] => { results := [.lit (.bool true)], args := [d] }
  | _ => none }
def spfTellsRow : OpenClaim := { program := "ytmdcfiejkbhgpaa", sum := "061dd477c7af78ff60706a67eebb72bd86ea4a251e01c38708a8d34ef30354c3", func := "footplate/footplatelaw27.SpfTells", spec := "spfTells", unfollowed := true, recurses := true, plainKeys := false, apart := false }
def SpfTellsSaid : Prop := spfTellsRow.holds Try.pinned (OpenSpec.ofChange spfTellsSpec)

/-- ITS FALSE NEIGHBOUR: 'it returns false'. Refute it at one input. -/
def spfTellsWrong : ChangeSpec := { name := "spfTells", fn := fun _ => fun
  | [d] => { results := [.lit (.bool false)], args := [d] }
  | _ => none }
def SpfTellsWrongFalsely : Prop := spfTellsRow.holds Try.pinned (OpenSpec.ofChange spfTellsWrong)

/-- 'footplatelaw27.SpfCosts': WHATEVER THE INPUT: true; the input reads as it did. -/
def spfCostsSpec : ChangeSpec := { name := "spfCosts", fn := fun _ => fun
  | [d1, d2] => { results := [.lit (.bool true)], args := [d1, d2] }
  | _ => none }
def spfCostsRow : OpenClaim := { program := "ytmdcfiejkbhgpaa", sum := "061dd477c7af78ff60706a67eebb72bd86ea4a251e01c38708a8d34ef30354c3", func := "footplate/footplatelaw27.SpfCosts", spec := "spfCosts", unfollowed := true, recurses := true, plainKeys := false, apart := false }
def SpfCostsSaid : Prop := spfCostsRow.holds Try.pinned (OpenSpec.ofChange spfCostsSpec)

/-- ITS FALSE NEIGHBOUR: 'it returns false'. Refute it at one input. -/
def spfCostsWrong : ChangeSpec := { name := "spfCosts", fn := fun _ => fun
  | [d1, d2] => { results := [.lit (.bool false)], args := [d1, d2] }
  | _ => none }
def SpfCostsWrongFalsely : Prop := spfCostsRow.holds Try.pinned (OpenSpec.ofChange spfCostsWrong)

/-- 'footplatelaw27.SpfThird': WHATEVER THE INPUT: true; the input reads as it did. -/
def spfThirdSpec : ChangeSpec := { name := "spfThird", fn := fun _ => fun
  | [d] => { results := [.lit (.bool true)], args := [d] }
  | _ => none }
def spfThirdRow : OpenClaim := { program := "ytmdcfiejkbhgpaa", sum := "061dd477c7af78ff60706a67eebb72bd86ea4a251e01c38708a8d34ef30354c3", func := "footplate/footplatelaw27.SpfThird", spec := "spfThird", unfollowed := true, recurses := true, plainKeys := false, apart := false }
def SpfThirdSaid : Prop := spfThirdRow.holds Try.pinned (OpenSpec.ofChange spfThirdSpec)

/-- ITS FALSE NEIGHBOUR: 'it returns false'. Refute it at one input. -/
def spfThirdWrong : ChangeSpec := { name := "spfThird", fn := fun _ => fun
  | [d] => { results := [.lit (.bool false)], args := [d] }
  | _ => none }
def SpfThirdWrongFalsely : Prop := spfThirdRow.holds Try.pinned (OpenSpec.ofChange spfThirdWrong)

/-- 'footplatelaw27.SpfCut': WHATEVER THE INPUT: true; the input reads as it did. -/
def spfCutSpec : ChangeSpec := { name := "spfCut", fn := fun _ => fun
  | [d] => { results := [.lit (.bool true)], args := [d] }
  | _ => none }
def spfCutRow : OpenClaim := { program := "ytmdcfiejkbhgpaa", sum := "061dd477c7af78ff60706a67eebb72bd86ea4a251e01c38708a8d34ef30354c3", func := "footplate/footplatelaw27.SpfCut", spec := "spfCut", unfollowed := true, recurses := true, plainKeys := false, apart := false }
def SpfCutSaid : Prop := spfCutRow.holds Try.pinned (OpenSpec.ofChange spfCutSpec)

/-- ITS FALSE NEIGHBOUR: 'it returns false'. Refute it at one input. -/
def spfCutWrong : ChangeSpec := { name := "spfCut", fn := fun _ => fun
  | [d] => { results := [.lit (.bool false)], args := [d] }
  | _ => none }
def SpfCutWrongFalsely : Prop := spfCutRow.holds Try.pinned (OpenSpec.ofChange spfCutWrong)

/-- 'footplatelaw27.SpfBack': WHATEVER THE INPUT: true; the input reads as it did. -/
def spfBackSpec : ChangeSpec := { name := "spfBack", fn := fun _ => fun
  | [d] => { results := [.lit (.bool true)], args := [d] }
  | _ => none }
def spfBackRow : OpenClaim := { program := "ytmdcfiejkbhgpaa", sum := "061dd477c7af78ff60706a67eebb72bd86ea4a251e01c38708a8d34ef30354c3", func := "footplate/footplatelaw27.SpfBack", spec := "spfBack", unfollowed := true, recurses := true, plainKeys := false, apart := false }
def SpfBackSaid : Prop := spfBackRow.holds Try.pinned (OpenSpec.ofChange spfBackSpec)

/-- ITS FALSE NEIGHBOUR: 'it returns false'. Refute it at one input. -/
def spfBackWrong : ChangeSpec := { name := "spfBack", fn := fun _ => fun
  | [d] => { results := [.lit (.bool false)], args := [d] }
  | _ => none }
def SpfBackWrongFalsely : Prop := spfBackRow.holds Try.pinned (OpenSpec.ofChange spfBackWrong)

/-- 'footplatelaw28.RepairTells': WHATEVER THE INPUT: true; the input reads as it did. -/
def repairTellsSpec : ChangeSpec := { name := "repairTells", fn := fun _ => fun
  | [d] => { results := [.lit (.bool true)], args := [d] }
  | _ => none }
def repairTellsRow : OpenClaim := { program := "ytmdcfiejkbhgpaa", sum := "061dd477c7af78ff60706a67eebb72bd86ea4a251e01c38708a8d34ef30354c3", func := "footplate/footplatelaw28.RepairTells", spec := "repairTells", unfollowed := true, recurses := true, plainKeys := false, apart := false }
def RepairTellsSaid : Prop := repairTellsRow.holds Try.pinned (OpenSpec.ofChange repairTellsSpec)

/-- ITS FALSE NEIGHBOUR: 'it returns false'. Refute it at one input. -/
def repairTellsWrong : ChangeSpec := { name := "repairTells", fn := fun _ => fun
  | [d] => { results := [.lit (.bool false)], args := [d] }
  | _ => none }
def RepairTellsWrongFalsely : Prop := repairTellsRow.holds Try.pinned (OpenSpec.ofChange repairTellsWrong)

/-- 'footplatelaw28.RepairSteps': WHATEVER THE INPUT: true; the input reads as it did. -/
def repairStepsSpec : ChangeSpec := { name := "repairSteps", fn := fun _ => fun
  | [d1, d2] => { results := [.lit (.bool true)], args := [d1, d2] }
  | _ => none }
def repairStepsRow : OpenClaim := { program := "ytmdcfiejkbhgpaa", sum := "061dd477c7af78ff60706a67eebb72bd86ea4a251e01c38708a8d34ef30354c3", func := "footplate/footplatelaw28.RepairSteps", spec := "repairSteps", unfollowed := true, recurses := true, plainKeys := false, apart := false }
def RepairStepsSaid : Prop := repairStepsRow.holds Try.pinned (OpenSpec.ofChange repairStepsSpec)

/-- ITS FALSE NEIGHBOUR: 'it returns false'. Refute it at one input. -/
def repairStepsWrong : ChangeSpec := { name := "repairSteps", fn := fun _ => fun
  | [d1, d2] => { results := [.lit (.bool false)], args := [d1, d2] }
  | _ => none }
def RepairStepsWrongFalsely : Prop := repairStepsRow.holds Try.pinned (OpenSpec.ofChange repairStepsWrong)

/-- 'footplatelaw28.RepairAround': WHATEVER THE INPUT: true; the input reads as it did. -/
def repairAroundSpec : ChangeSpec := { name := "repairAround", fn := fun _ => fun
  | [d] => { results := [.lit (.bool true)], args := [d] }
  | _ => none }
def repairAroundRow : OpenClaim := { program := "ytmdcfiejkbhgpaa", sum := "061dd477c7af78ff60706a67eebb72bd86ea4a251e01c38708a8d34ef30354c3", func := "footplate/footplatelaw28.RepairAround", spec := "repairAround", unfollowed := true, recurses := true, plainKeys := false, apart := false }
def RepairAroundSaid : Prop := repairAroundRow.holds Try.pinned (OpenSpec.ofChange repairAroundSpec)

/-- ITS FALSE NEIGHBOUR: 'it returns false'. Refute it at one input. -/
def repairAroundWrong : ChangeSpec := { name := "repairAround", fn := fun _ => fun
  | [d] => { results := [.lit (.bool false)], args := [d] }
  | _ => none }
def RepairAroundWrongFalsely : Prop := repairAroundRow.holds Try.pinned (OpenSpec.ofChange repairAroundWrong)

/-- 'footplatelaw28.RepairNear': WHATEVER THE INPUT: true; the input reads as it did. -/
def repairNearSpec : ChangeSpec := { name := "repairNear", fn := fun _ => fun
  | [d] => { results := [.lit (.bool true)], args := [d] }
  | _ => none }
def repairNearRow : OpenClaim := { program := "ytmdcfiejkbhgpaa", sum := "061dd477c7af78ff60706a67eebb72bd86ea4a251e01c38708a8d34ef30354c3", func := "footplate/footplatelaw28.RepairNear", spec := "repairNear", unfollowed := true, recurses := true, plainKeys := false, apart := false }
def RepairNearSaid : Prop := repairNearRow.holds Try.pinned (OpenSpec.ofChange repairNearSpec)

/-- ITS FALSE NEIGHBOUR: 'it returns false'. Refute it at one input. -/
def repairNearWrong : ChangeSpec := { name := "repairNear", fn := fun _ => fun
  | [d] => { results := [.lit (.bool false)], args := [d] }
  | _ => none }
def RepairNearWrongFalsely : Prop := repairNearRow.holds Try.pinned (OpenSpec.ofChange repairNearWrong)

/- THE SECOND FORM. 'bulk': how many values and letters a reading holds, each counted each time it is reached (what is shared counts as often as it is met; a slice's spare places count too). A statement '..UptoSaid' is the law's where the arguments, and the package variables that the reading takes, are together of bulk at most 1048576: NARROWER than '..Said'. Prove '..Said' where nothing that the law and all that it calls make is longer than what came in: it says more and counts as full. Else prove '..UptoSaid'. A law counts once. -/
mutual
def uptoBulk {H : Type} : DataW H → Nat
  | .lit (.string bytes) => bytes.length + 1
  | .lit _ => 1
  | .nil => 1
  | .ptr d => uptoBulk d + 1
  | .slice elems spare => uptoBulkAll elems + uptoBulkAll spare + 1
  | .agg parts => uptoBulkAll parts + 1
  | .iface _ d => uptoBulk d + 1
  | .map entries => uptoBulkEntries entries + 1
  | .held _ => 1
def uptoBulkAll {H : Type} : List (DataW H) → Nat
  | [] => 0
  | d :: r => uptoBulk d + uptoBulkAll r
def uptoBulkEntries {H : Type} : List (Lit × DataW H) → Nat
  | [] => 0
  | x :: r => uptoBulkEntry x + uptoBulkEntries r
def uptoBulkEntry {H : Type} : Lit × DataW H → Nat
  | (.string bytes, d) => bytes.length + uptoBulk d + 1
  | (_, d) => uptoBulk d + 1
 end
def uptoSmall : (H : Type) → List (DataW H) → Bool := fun _ ds => decide (uptoBulkAll ds ≤ 1048576)
def OpenSpec.upto (s : _root_.Go.ChangeSpec) : _root_.Go.OpenSpec := { _root_.Go.OpenSpec.ofChange s with cond := some uptoSmall }

/-- 'footplatelaw27.SpfTells', WHERE WHAT IT READS IS OF BULK AT MOST 1048576: true; the input reads as it did. -/
def spfTellsUptoRow : OpenClaim := { program := "ytmdcfiejkbhgpaa", sum := "061dd477c7af78ff60706a67eebb72bd86ea4a251e01c38708a8d34ef30354c3", func := "footplate/footplatelaw27.SpfTells", spec := "spfTells", unfollowed := true, recurses := true, plainKeys := false, apart := false, narrowed := true }
def SpfTellsUptoSaid : Prop := spfTellsUptoRow.holds Try.pinned (OpenSpec.upto spfTellsSpec)

/-- 'footplatelaw27.SpfCosts', WHERE WHAT IT READS IS OF BULK AT MOST 1048576: true; the input reads as it did. -/
def spfCostsUptoRow : OpenClaim := { program := "ytmdcfiejkbhgpaa", sum := "061dd477c7af78ff60706a67eebb72bd86ea4a251e01c38708a8d34ef30354c3", func := "footplate/footplatelaw27.SpfCosts", spec := "spfCosts", unfollowed := true, recurses := true, plainKeys := false, apart := false, narrowed := true }
def SpfCostsUptoSaid : Prop := spfCostsUptoRow.holds Try.pinned (OpenSpec.upto spfCostsSpec)

/-- 'footplatelaw27.SpfThird', WHERE WHAT IT READS IS OF BULK AT MOST 1048576: true; the input reads as it did. -/
def spfThirdUptoRow : OpenClaim := { program := "ytmdcfiejkbhgpaa", sum := "061dd477c7af78ff60706a67eebb72bd86ea4a251e01c38708a8d34ef30354c3", func := "footplate/footplatelaw27.SpfThird", spec := "spfThird", unfollowed := true, recurses := true, plainKeys := false, apart := false, narrowed := true }
def SpfThirdUptoSaid : Prop := spfThirdUptoRow.holds Try.pinned (OpenSpec.upto spfThirdSpec)

/-- 'footplatelaw27.SpfCut', WHERE WHAT IT READS IS OF BULK AT MOST 1048576: true; the input reads as it did. -/
def spfCutUptoRow : OpenClaim := { program := "ytmdcfiejkbhgpaa", sum := "061dd477c7af78ff60706a67eebb72bd86ea4a251e01c38708a8d34ef30354c3", func := "footplate/footplatelaw27.SpfCut", spec := "spfCut", unfollowed := true, recurses := true, plainKeys := false, apart := false, narrowed := true }
def SpfCutUptoSaid : Prop := spfCutUptoRow.holds Try.pinned (OpenSpec.upto spfCutSpec)

/-- 'footplatelaw27.SpfBack', WHERE WHAT IT READS IS OF BULK AT MOST 1048576: true; the input reads as it did. -/
def spfBackUptoRow : OpenClaim := { program := "ytmdcfiejkbhgpaa", sum := "061dd477c7af78ff60706a67eebb72bd86ea4a251e01c38708a8d34ef30354c3", func := "footplate/footplatelaw27.SpfBack", spec := "spfBack", unfollowed := true, recurses := true, plainKeys := false, apart := false, narrowed := true }
def SpfBackUptoSaid : Prop := spfBackUptoRow.holds Try.pinned (OpenSpec.upto spfBackSpec)

/-- 'footplatelaw28.RepairTells', WHERE WHAT IT READS IS OF BULK AT MOST 1048576: true; the input reads as it did. -/
def repairTellsUptoRow : OpenClaim := { program := "ytmdcfiejkbhgpaa", sum := "061dd477c7af78ff60706a67eebb72bd86ea4a251e01c38708a8d34ef30354c3", func := "footplate/footplatelaw28.RepairTells", spec := "repairTells", unfollowed := true, recurses := true, plainKeys := false, apart := false, narrowed := true }
def RepairTellsUptoSaid : Prop := repairTellsUptoRow.holds Try.pinned (OpenSpec.upto repairTellsSpec)

/-- 'footplatelaw28.RepairSteps', WHERE WHAT IT READS IS OF BULK AT MOST 1048576: true; the input reads as it did. -/
def repairStepsUptoRow : OpenClaim := { program := "ytmdcfiejkbhgpaa", sum := "061dd477c7af78ff60706a67eebb72bd86ea4a251e01c38708a8d34ef30354c3", func := "footplate/footplatelaw28.RepairSteps", spec := "repairSteps", unfollowed := true, recurses := true, plainKeys := false, apart := false, narrowed := true }
def RepairStepsUptoSaid : Prop := repairStepsUptoRow.holds Try.pinned (OpenSpec.upto repairStepsSpec)

/-- 'footplatelaw28.RepairAround', WHERE WHAT IT READS IS OF BULK AT MOST 1048576: true; the input reads as it did. -/
def repairAroundUptoRow : OpenClaim := { program := "ytmdcfiejkbhgpaa", sum := "061dd477c7af78ff60706a67eebb72bd86ea4a251e01c38708a8d34ef30354c3", func := "footplate/footplatelaw28.RepairAround", spec := "repairAround", unfollowed := true, recurses := true, plainKeys := false, apart := false, narrowed := true }
def RepairAroundUptoSaid : Prop := repairAroundUptoRow.holds Try.pinned (OpenSpec.upto repairAroundSpec)

/-- 'footplatelaw28.RepairNear', WHERE WHAT IT READS IS OF BULK AT MOST 1048576: true; the input reads as it did. -/
def repairNearUptoRow : OpenClaim := { program := "ytmdcfiejkbhgpaa", sum := "061dd477c7af78ff60706a67eebb72bd86ea4a251e01c38708a8d34ef30354c3", func := "footplate/footplatelaw28.RepairNear", spec := "repairNear", unfollowed := true, recurses := true, plainKeys := false, apart := false, narrowed := true }
def RepairNearUptoSaid : Prop := repairNearUptoRow.holds Try.pinned (OpenSpec.upto repairNearSpec)

end Rows
end Go.Proofs.Ytmdcfiejkbhgpaa
