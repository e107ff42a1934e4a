/-
  From the row's condition to the walks' fact: the table of powers of ten (the rows that list three tables).
-/
import Derived.Test.YtheggpklgeobkaaDoorDig
import Derived.Test.YtheggpklgeobkaaDoorOpen
import Derived.LaidMore
import Derived.Lib.LaidTab
import Derived.Stop.Joined
namespace Go.Proofs.YtheggpklgeobkaaDoor
open Go.ChangeShapes Go.WideShapes Go.ChangeAt Go.RowKit Go.Deep

def laidL : List (String × DataW Unit) := [("math/bits.deBruijn32tab", Rows.laid_math_bits_deBruijn32tab), ("math/bits.deBruijn64tab", Rows.laid_math_bits_deBruijn64tab), ("internal/strconv.uint64pow10", Rows.laid_internal_strconv_uint64pow10)]
theorem pow_data : (Rows.laid_internal_strconv_uint64pow10 : DataW Unit) = Lib.tabData .u64 Lib.pow10Tab := rfl
theorem ty_pow : (Tryd.prog.globals[0]?).map (·.type) = some 90 := by kernel_rfl
/-- what the condition gives the walks -/
theorem of_laid {W : World} (h : laidMetH Tryd.prog laidL W) : Tab W := by
  rw [MakeChecks.laidMetH_plain _ _ _ (by kernel_rfl)] at h
  obtain ⟨ps, ⟨g0, t0, cs0, f0, p0, q0, hg0, ht0, hv0, hd0, ⟨g1, t1, cs1, f1, p1, q1, hg1, ht1, hv1, hd1, ⟨g2, t2, cs2, f2, p2, q2, hg2, ht2, hv2, hd2, _, _⟩, _⟩, _⟩, _, _⟩ := h
  clear hd0 hd1 hv0 hv1 hg0 hg1 ht0 ht1
  obtain rfl := Option.some.inj (tab_g.symm.trans hg2)
  obtain rfl := Option.some.inj (ty_pow.symm.trans ht2)
  rw [pow_data] at hd2
  unfold Tab Lib.TabIs
  rw [hv2, ← Lib.cells_of_tab Tryd.underlying90 Tryd.underlying84 (by kernel_rfl) (by kernel_rfl) hd2]

theorem door_met (os : Os) (args : Array Value) : laidMetH Tryd.prog laidL ((World.doorLaid Tryd.prog 400 os).forCall (fun _ _ => 0) ⟨#[], args, []⟩).memory :=
  laidMetH_of_parts3 (fuel := 8) (laidMet_of_run' 8 (by kernel_rfl) (by kernel_rfl)) (by kernel_rfl) (by kernel_rfl)
end Go.Proofs.YtheggpklgeobkaaDoor
