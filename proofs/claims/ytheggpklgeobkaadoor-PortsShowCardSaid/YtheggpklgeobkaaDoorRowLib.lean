/-
  From the reading of the argument to a script's steps.
-/
import Derived.Test.YtheggpklgeobkaaDoorLawShow
import Derived.Test.YtheggpklgeobkaaDoorLaidT
namespace Go.Proofs.YtheggpklgeobkaaDoor
open Go.ChangeShapes Go.WideShapes Go.ChangeAt Go.RowKit Go.Deep
section
variable {H : Type} {enc : TypeId × Value → H} {w : World} {base : Nat} {spare : Nat → Bool} {held : Bool}
theorem open_sp {fuel : Nat} {cs : List Value} {x : DataW H × List MemPlace} (h : DataW.trod enc Tryd.prog w base spare held fuel 48 cs = some x) : ∃ s : Sp, cs = spc s ∧ True := by
  obtain ⟨xs, n, -, -, hl, hxl, hf⟩ := DataW.trod_struct Tryd.underlying48 h
  rw [show Tryd.prog.cellsOf 48 = 3 by kernel_rfl] at hl
  have cI : Tryd.prog.cellsOf 3 = 1 := by kernel_rfl
  match cs, hl with
  | [c0, c1, c2], _ =>
    have f0 : DataW.trod enc Tryd.prog w base spare held n 3 (List.take (Tryd.prog.cellsOf 3) (List.drop 0 [c0, c1, c2])) = xs[0]? := hf 0 _ rfl
    have f1 : DataW.trod enc Tryd.prog w base spare held n 3 (List.take (Tryd.prog.cellsOf 3) (List.drop 1 [c0, c1, c2])) = xs[1]? := hf 1 _ rfl
    have f2 : DataW.trod enc Tryd.prog w base spare held n 3 (List.take (Tryd.prog.cellsOf 3) (List.drop 2 [c0, c1, c2])) = xs[2]? := hf 2 _ rfl
    obtain ⟨x0, e0⟩ := at_lt hxl (show 0 < 3 by decide)
    obtain ⟨x1, e1⟩ := at_lt hxl (show 1 < 3 by decide)
    obtain ⟨x2, e2⟩ := at_lt hxl (show 2 < 3 by decide)
    rw [e0] at f0; rw [e1] at f1; rw [e2] at f2
    rw [cI] at f0 f1 f2
    obtain ⟨n0, h0, -⟩ := int_cell f0
    obtain ⟨n1, h1, -⟩ := int_cell f1
    obtain ⟨n2, h2, -⟩ := int_cell f2
    simp at h0 h1 h2
    subst h0; subst h1; subst h2
    exact ⟨⟨n0, n1, n2⟩, rfl, trivial⟩
theorem open_script {fuel : Nat} {a : Option Addr} {len cap : Nat} {x : DataW H × List MemPlace} (h : DataW.trod enc Tryd.prog w base spare held fuel 22 [.slice a len cap] = some x) : ∃ l, Rd spc 3 w a len l := by
  obtain ⟨l, h1, -, -⟩ := open_rows (Q := fun _ => True) spc_len (by decide) Tryd.underlying22 (by kernel_rfl) (fun n cs y hc hy => open_sp hy) h
  exact ⟨l, h1⟩
end
end Go.Proofs.YtheggpklgeobkaaDoor
