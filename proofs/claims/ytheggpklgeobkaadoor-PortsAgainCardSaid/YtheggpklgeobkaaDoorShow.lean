/-
  The program's Show and All.
-/
import Derived.Test.YtheggpklgeobkaaDoorAll
import Derived.Test.YtheggpklgeobkaaDoorRShow
import Derived.Test.YtheggpklgeobkaaDoorBld
import Derived.Sort.CutIn
namespace Go.Proofs.YtheggpklgeobkaaDoor
open Go.RowKit Go.Shelf
attribute [local go_sem] Oper.semAt_some

theorem each_any (p : Option Addr) (w : World) : Calls Tryd.prog 25 #[.pointer p] w fun e w' => e = .returned (.func (.func 32) #[] #[.pointer (some ⟨w.heap.size, 0, none⟩)]) ∧ w' = w.alloc (.cells #[.pointer p] 24) := by
  go_enter Tryd.func25, Tryd.ntmps25
  go_wp2
  go_ret
  exact ⟨rfl, rfl⟩

/-- the call gives a row of the interfaces l -/
def GivesP (w : World) (l : List Pe) (e : Ending) (w' : World) : Prop := ∃ v, e = .returned v ∧ w'.ownsRow w.heap.size 42 3 v l.length (flatE pen l) ∧ Below w.heap.size w w'
theorem collect_any {bx n₀ : Nat} {xs : List Pe} (hxs : xs.length ≤ 64) {w : World} (hst : ∀ w', Below w.heap.size w w' → Stops (fun x : Pe => x) 4 bx n₀ xs w') (hn₀ : n₀ ≤ w.heap.size) :
    Calls Tryd.prog 29 #[.func (.func 32) #[] #[.pointer (some ⟨bx, 0, none⟩)]] w (GivesP w xs) := by
  have HA := Lib.hid (callsIn_wide.1 (appendSeq_in 5 (by decide) bx n₀ xs hxs w hst hn₀))
  clear hst hn₀ hxs
  go_enter Tryd.func29, Tryd.ntmps29
  go_wp2_with (go_at_call 35; refine (HA.out).mono ?_; rintro e w1 ⟨v, rfl, hown, hb⟩; have HO := Lib.hid hown; have HB := Lib.hid hb; clear hown hb)
  go_ret
  exact ⟨v, rfl, HO.out, HB.out⟩
theorem allG {p : Option Addr} {n₀ : Nat} {xs : List Pe} (hxs : xs.length ≤ 64) {w : World} (hst : ∀ w', Below (w.alloc (.cells #[.pointer p] 24)).heap.size (w.alloc (.cells #[.pointer p] 24)) w' → Stops (fun x : Pe => x) 4 w.heap.size n₀ xs w') (hn₀ : n₀ ≤ w.heap.size) :
    Calls Tryd.prog 16 #[.pointer p] w (GivesP w xs) := by
  have HE := Lib.hid (each_any p w)
  have HC := Lib.hid (collect_any hxs hst (by simp; omega))
  have HB0 : Hid (Below w.heap.size w (w.alloc (.cells #[.pointer p] 24))) := Lib.hid (by go_grown)
  have HSZ : Hid (w.heap.size ≤ (w.alloc (.cells #[.pointer p] 24)).heap.size) := Lib.hid (by simp)
  clear hst hn₀ hxs
  go_enter Tryd.func16, Tryd.ntmps16
  go_wp2_with fail
  refine (HE.out).mono ?_
  rintro e w1 ⟨rfl, hw⟩
  rw [← hw] at HC HB0 HSZ
  clear hw HE
  go_wp2_with fail
  refine (HC.out).mono ?_
  rintro e w2 ⟨v, rfl, hown, hb⟩
  have HO := Lib.hid (own_mono hown HSZ.out)
  have HB := Lib.hid (HB0.out.trans (hb.mono HSZ.out))
  clear hown hb HC HB0 HSZ
  go_wp2
  go_ret
  exact ⟨v, rfl, HO.out, HB.out⟩
/-- All -/
theorem all_any {w : World} {p B : Nat} {g : PG} (hp : PtsAt w p B g) : Calls Tryd.prog 16 #[.pointer (some ⟨p, 0, none⟩)] w (GivesP w (lst (abs g))) :=
  allG (n₀ := w.heap.size) (lst_len _) (fun w' hb => each_stops (by decide) (fun k x _ _ => ⟨_, rfl⟩) hp ((below_al1 w _).trans (hb.mono (by simp))) (Nat.lt_of_lt_of_le (by simp) hb.size)
    ((hb.cell (p := ⟨w.heap.size, 0, none⟩) (by simp)).trans (by simp))) (Nat.le_refl _)
theorem all_nil (w : World) : Calls Tryd.prog 16 #[.pointer none] w (GivesP w []) :=
  allG (n₀ := w.heap.size) (by simp) (fun w' hb => each_nil_stops (Nat.lt_of_lt_of_le (by simp) hb.size) ((hb.cell (p := ⟨w.heap.size, 0, none⟩) (by simp)).trans (by simp))) (Nat.le_refl _)
end Go.Proofs.YtheggpklgeobkaaDoor
