/-
  The reasons' names: the program's table, and the reference's row.
-/
import Derived.Test.YtpkfmikpgfgbgaaDoorSumR
import Derived.Test.YtpkfmikpgfgbgaaDoorDig
namespace Go.Proofs.YtpkfmikpgfgbgaaDoor
open Go.RowKit

def nameL : List (List UInt8) := [[102, 105, 110, 101], [112, 111, 114, 116], [115, 104, 111, 114, 116], [98, 111, 116, 116, 111, 109], [118, 101, 114, 115, 105, 111, 110], [108, 101, 110, 103, 116, 104], [115, 117, 109], [115, 112, 101, 99, 105, 97, 108], [108, 97, 98, 101, 108], [114, 111, 117, 116, 101], [116, 116, 108], [109, 116, 117], [100, 101, 112, 116, 104]]
def nameT (i : Nat) : List UInt8 := nameL.getD i []
theorem nameT_len (i : Nat) : (nameT i).length ≤ 8 := by
  unfold nameT
  by_cases h : i < 13
  · have : ∀ i, i < 13 → (nameL.getD i []).length ≤ 8 := by decide
    exact this i h
  · rw [List.getD_eq_getElem?_getD, List.getElem?_eq_none (by simp [nameL]; omega)]; simp
/-- the program's table is as it is laid -/
def Names (w : World) : Prop := w.var? Tryd.prog "footplate/forward.names" = some (nameL.map fun l => Value.string (txt l)).toArray
theorem names_g : Tryd.prog.globalNamed "footplate/forward.names" = some 0 := by kernel_rfl
theorem Names.below {w w' : World} (h : Names w) (hb : Below w.heap.size w w') : Names w' := var_kept h hb
theorem Names.cell {w : World} (h : Names w) {i : Nat} (hi : i < 13) : w.cell? ⟨0, i, none⟩ = some (.string (txt (nameT i))) := by
  unfold Names World.var? at h
  rw [names_g] at h
  simp only [Option.bind_some] at h
  unfold World.cell?
  cases hg : w.heap[0]? with
  | none => rw [hg] at h; simp at h
  | some o =>
    rw [hg] at h
    cases o <;> simp at h
    subst h
    simp only [nameT]
    have : i < nameL.length := by simpa [nameL] using hi
    simp [List.getD_eq_getElem?_getD, List.getElem?_eq_getElem this]
theorem name_any {w : World} (h : Names w) (i : Nat) (hi : i < 13) :
    Calls Tryd.prog 25 #[.int .i64 (i : Int)] w fun e w' => e = .returned (.string (txt (nameT i))) ∧ w' = w := by
  have hc := h.cell hi
  have h0 : decide ((i : Int) < 0) = false := decide_eq_false (by omega)
  have h1 : decide ((i : Int) ≥ 13) = false := decide_eq_false (by omega)
  have h2 : (0 : Int) ≤ i := by omega
  have h3 : (i : Int) < 13 := by omega
  clear h
  go_enter Tryd.func25, Tryd.ntmps25
  go_wp2
  go_ret
  exact ⟨rfl, rfl⟩
theorem rname_any (w : World) (i : Nat) (hi : i < 13) :
    Calls Tryd.prog 28 #[.int .i64 (i : Int)] w fun e w' => e = .returned (.string (txt (nameT i))) ∧ Below w.heap.size w w' := by
  have h0 : decide ((i : Int) < 0) = false := decide_eq_false (by omega)
  have h1 : decide ((i : Int) ≥ 13) = false := decide_eq_false (by omega)
  have h2 : (0 : Int) ≤ i := by omega
  have h3 : (i : Int) < 13 := by omega
  go_enter Tryd.func28, Tryd.ntmps28
  go_upto_region 2 with fail
  have HB : Hid (Below w.heap.size w (w.alloc (.cells (nameL.map fun l => Value.string (txt l)).toArray 9))) := Lib.hid (by go_grown)
  have hg : ∀ j (hj : j < (nameL.map fun l => Value.string (txt l)).length), (nameL.map fun l => Value.string (txt l))[j] = .string (txt (nameT j)) := fun j hj => by
    have : j < nameL.length := by simpa using hj
    simp [nameT, List.getD_eq_getElem?_getD, List.getElem?_eq_getElem this]
  have HG := Lib.hid (hg i (by simp [nameL]; omega))
  clear hg
  go_wp2
  go_ret
  exact ⟨congrArg Ending.returned HG.out, HB.out⟩

end Go.Proofs.YtpkfmikpgfgbgaaDoor
