/-
  No cell of these rows narrows 'for every input' (looked for: loops, veiled, ifaces, maps, wideKeys, modest, calm, conditions, laid).
  DERIVED. THE GIVEN ROWS OF THIS SEAT. 4 by the template 'for every input the law returns true; each argument reads behind the call as it read before'; 0 by the template 'total and deterministic' (their statements: YtepbchgjnhnhjaaTotals.lean).
  GIVEN WITH THE SEED: the statements are not yours to turn. If you find one false, say at which input.
  Laid BY PROGRAM, IN A SANDBOX (cutbox-rows.mjs): the forced cells as the released guide's own fill.sh prints them over the translation 66a6b5cf12f62b42… (all of the seat's roots in one cut). By AI agents, Wed Nov 11 2026. No macro, syntax, notation, axiom, sorry.
-/
import Derived.Test.YtepbchgjnhnhjaaChecked
import GoSem.Claim
import GoSem.ClaimJoined
import GoSem.ClaimMapViews
import Derived.JoinedTies
import Derived.KernelRfl
namespace Go.Proofs.Ytepbchgjnhnhjaa
/- THE CELL 'sum', in the pinned program and in every row, IS THE sha256 OF THE DUMP (.gsa) THAT YtepbchgjnhnhjaaProg.lean LOADS. Nothing in Lean hashes anything: it is a label: what it is worth is what the hold of that sum in a sandbox is worth. -/
noncomputable def Try.pinned : Pinned := { name := "ytepbchgjnhnhjaa", sum := "66a6b5cf12f62b4286eb929b68dd8a2f8ac2159375ecc123b6e678b2228382be", checked := Try.checked }
namespace Rows
def none {H : Type} : Left H := { results := [], args := [] }

/-- 'footplatelaw18.GroupTells': WHATEVER THE INPUT: true; the input reads as it did. -/
def groupTellsSpec : ChangeSpec := { name := "groupTells", fn := fun _ => fun
  | [d1, d2, d3] => { results := [.lit (.bool true)], args := [d1, d2, d3] }
  | _ => none }
def groupTellsRow : OpenClaim := { program := "ytepbchgjnhnhjaa", sum := "66a6b5cf12f62b4286eb929b68dd8a2f8ac2159375ecc123b6e678b2228382be", func := "footplate/footplatelaw18.GroupTells", spec := "groupTells", unfollowed := true, recurses := true, apart := false }
def GroupTellsSaid : Prop := groupTellsRow.holds Try.pinned (OpenSpec.ofChange groupTellsSpec)

/-- ITS FALSE NEIGHBOUR: 'it returns false'. Refute it at one input. -/
def groupTellsWrong : ChangeSpec := { name := "groupTells", fn := fun _ => fun
  | [d1, d2, d3] => { results := [.lit (.bool false)], args := [d1, d2, d3] }
  | _ => none }
def GroupTellsWrongFalsely : Prop := groupTellsRow.holds Try.pinned (OpenSpec.ofChange groupTellsWrong)

/-- 'footplatelaw18.GroupFair': WHATEVER THE INPUT: true; the input reads as it did. -/
def groupFairSpec : ChangeSpec := { name := "groupFair", fn := fun _ => fun
  | [d1, d2] => { results := [.lit (.bool true)], args := [d1, d2] }
  | _ => none }
def groupFairRow : OpenClaim := { program := "ytepbchgjnhnhjaa", sum := "66a6b5cf12f62b4286eb929b68dd8a2f8ac2159375ecc123b6e678b2228382be", func := "footplate/footplatelaw18.GroupFair", spec := "groupFair", unfollowed := true, recurses := true, apart := false }
def GroupFairSaid : Prop := groupFairRow.holds Try.pinned (OpenSpec.ofChange groupFairSpec)

/-- ITS FALSE NEIGHBOUR: 'it returns false'. Refute it at one input. -/
def groupFairWrong : ChangeSpec := { name := "groupFair", fn := fun _ => fun
  | [d1, d2] => { results := [.lit (.bool false)], args := [d1, d2] }
  | _ => none }
def GroupFairWrongFalsely : Prop := groupFairRow.holds Try.pinned (OpenSpec.ofChange groupFairWrong)

/-- 'footplatelaw18.GroupNorm': WHATEVER THE INPUT: true; the input reads as it did. -/
def groupNormSpec : ChangeSpec := { name := "groupNorm", fn := fun _ => fun
  | [d1, d2] => { results := [.lit (.bool true)], args := [d1, d2] }
  | _ => none }
def groupNormRow : OpenClaim := { program := "ytepbchgjnhnhjaa", sum := "66a6b5cf12f62b4286eb929b68dd8a2f8ac2159375ecc123b6e678b2228382be", func := "footplate/footplatelaw18.GroupNorm", spec := "groupNorm", unfollowed := true, recurses := true, apart := false }
def GroupNormSaid : Prop := groupNormRow.holds Try.pinned (OpenSpec.ofChange groupNormSpec)

/-- ITS FALSE NEIGHBOUR: 'it returns false'. Refute it at one input. -/
def groupNormWrong : ChangeSpec := { name := "groupNorm", fn := fun _ => fun
  | [d1, d2] => { results := [.lit (.bool false)], args := [d1, d2] }
  | _ => none }
def GroupNormWrongFalsely : Prop := groupNormRow.holds Try.pinned (OpenSpec.ofChange groupNormWrong)

/-- 'footplatelaw18.GroupRest': WHATEVER THE INPUT: true; the input reads as it did. -/
def groupRestSpec : ChangeSpec := { name := "groupRest", fn := fun _ => fun
  | [d1, d2] => { results := [.lit (.bool true)], args := [d1, d2] }
  | _ => none }
def groupRestRow : OpenClaim := { program := "ytepbchgjnhnhjaa", sum := "66a6b5cf12f62b4286eb929b68dd8a2f8ac2159375ecc123b6e678b2228382be", func := "footplate/footplatelaw18.GroupRest", spec := "groupRest", unfollowed := true, recurses := true, apart := false }
def GroupRestSaid : Prop := groupRestRow.holds Try.pinned (OpenSpec.ofChange groupRestSpec)

/-- ITS FALSE NEIGHBOUR: 'it returns false'. Refute it at one input. -/
def groupRestWrong : ChangeSpec := { name := "groupRest", fn := fun _ => fun
  | [d1, d2] => { results := [.lit (.bool false)], args := [d1, d2] }
  | _ => none }
def GroupRestWrongFalsely : Prop := groupRestRow.holds Try.pinned (OpenSpec.ofChange groupRestWrong)

/- THE SECOND FORM. 'bulk': how many values and letters a reading holds, each counted each time it is reached (what is shared counts as often as it is met; a slice's spare places count too). A statement '..UptoSaid' is the law's where the arguments, and the package variables that the reading takes, are together of bulk at most 1048576: NARROWER than '..Said'. Prove '..Said' where nothing that the law and all that it calls make is longer than what came in: it says more and counts as full. Else prove '..UptoSaid'. A law counts once. -/
mutual
def uptoBulk {H : Type} : DataW H → Nat
  | .lit (.string bytes) => bytes.length + 1
  | .lit _ => 1
  | .nil => 1
  | .ptr d => uptoBulk d + 1
  | .slice elems spare => uptoBulkAll elems + uptoBulkAll spare + 1
  | .agg parts => uptoBulkAll parts + 1
  | .iface _ d => uptoBulk d + 1
  | .map entries => uptoBulkEntries entries + 1
  | .held _ => 1
def uptoBulkAll {H : Type} : List (DataW H) → Nat
  | [] => 0
  | d :: r => uptoBulk d + uptoBulkAll r
def uptoBulkEntries {H : Type} : List (Lit × DataW H) → Nat
  | [] => 0
  | x :: r => uptoBulkEntry x + uptoBulkEntries r
def uptoBulkEntry {H : Type} : Lit × DataW H → Nat
  | (.string bytes, d) => bytes.length + uptoBulk d + 1
  | (_, d) => uptoBulk d + 1
 end
def uptoSmall : (H : Type) → List (DataW H) → Bool := fun _ ds => decide (uptoBulkAll ds ≤ 1048576)
def OpenSpec.upto (s : _root_.Go.ChangeSpec) : _root_.Go.OpenSpec := { _root_.Go.OpenSpec.ofChange s with cond := some uptoSmall }

/-- 'footplatelaw18.GroupTells', WHERE WHAT IT READS IS OF BULK AT MOST 1048576: true; the input reads as it did. -/
def groupTellsUptoRow : OpenClaim := { program := "ytepbchgjnhnhjaa", sum := "66a6b5cf12f62b4286eb929b68dd8a2f8ac2159375ecc123b6e678b2228382be", func := "footplate/footplatelaw18.GroupTells", spec := "groupTells", unfollowed := true, recurses := true, apart := false, narrowed := true }
def GroupTellsUptoSaid : Prop := groupTellsUptoRow.holds Try.pinned (OpenSpec.upto groupTellsSpec)

/-- 'footplatelaw18.GroupFair', WHERE WHAT IT READS IS OF BULK AT MOST 1048576: true; the input reads as it did. -/
def groupFairUptoRow : OpenClaim := { program := "ytepbchgjnhnhjaa", sum := "66a6b5cf12f62b4286eb929b68dd8a2f8ac2159375ecc123b6e678b2228382be", func := "footplate/footplatelaw18.GroupFair", spec := "groupFair", unfollowed := true, recurses := true, apart := false, narrowed := true }
def GroupFairUptoSaid : Prop := groupFairUptoRow.holds Try.pinned (OpenSpec.upto groupFairSpec)

/-- 'footplatelaw18.GroupNorm', WHERE WHAT IT READS IS OF BULK AT MOST 1048576: true; the input reads as it did. -/
def groupNormUptoRow : OpenClaim := { program := "ytepbchgjnhnhjaa", sum := "66a6b5cf12f62b4286eb929b68dd8a2f8ac2159375ecc123b6e678b2228382be", func := "footplate/footplatelaw18.GroupNorm", spec := "groupNorm", unfollowed := true, recurses := true, apart := false, narrowed := true }
def GroupNormUptoSaid : Prop := groupNormUptoRow.holds Try.pinned (OpenSpec.upto groupNormSpec)

/-- 'footplatelaw18.GroupRest', WHERE WHAT IT READS IS OF BULK AT MOST 1048576: true; the input reads as it did. -/
def groupRestUptoRow : OpenClaim := { program := "ytepbchgjnhnhjaa", sum := "66a6b5cf12f62b4286eb929b68dd8a2f8ac2159375ecc123b6e678b2228382be", func := "footplate/footplatelaw18.GroupRest", spec := "groupRest", unfollowed := true, recurses := true, apart := false, narrowed := true }
def GroupRestUptoSaid : Prop := groupRestUptoRow.holds Try.pinned (OpenSpec.upto groupRestSpec)

end Rows
end Go.Proofs.Ytepbchgjnhnhjaa
