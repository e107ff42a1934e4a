/-
  The program's tally: New, within, at, Add, What, Why, In, Out.
-/
import Derived.Test.YtpkfmikpgfgbgaaDoorPl
import Derived.StillTailTactics
import Derived.Deep.DeepCutAuto
import Derived.Deep.CutRange
namespace Go.Proofs.YtpkfmikpgfgbgaaDoor
open Go.RowKit

theorem new_any (w : World) : Calls Tryd.prog 7 #[] w fun e w' => e = .returned (.pointer (some ⟨w.heap.size, 0, none⟩)) ∧ TlAt w' w.heap.size 52 zeroZ ∧ Below w.heap.size w w' := by
  go_enter Tryd.func7, Tryd.ntmps7
  go_wp2
  go_ret
  exact ⟨rfl, TlAt.new _ _ _, by go_grown⟩

def inRow (i : Int) (n : Nat) : Bool := decide (0 ≤ i ∧ i < n)
theorem within_any (A : Option Addr) (n c : Nat) (i : Int) (w : World) : Calls Tryd.prog 19 #[.slice A n c, .int .i64 i] w fun e w' => e = .returned (.bool (inRow i n)) ∧ w = w' := by
  by_cases h0 : 0 ≤ i
  · by_cases h1 : i < n
    · have hr : inRow i n = true := by simp [inRow, h0, h1]
      rw [hr]
      go_enter Tryd.func19, Tryd.ntmps19
      go_wp2
      go_ret
      exact ⟨rfl, rfl⟩
    · have hr : inRow i n = false := by simp [inRow]; omega
      have d1 : decide (i < (n : Int)) = false := by simpa using h1
      rw [hr]
      go_enter Tryd.func19, Tryd.ntmps19
      go_wp2
      go_ret
      exact ⟨rfl, rfl⟩
  · have hr : inRow i n = false := by simp [inRow]; omega
    have d1 : decide (i ≥ 0) = false := by simpa using h0
    rw [hr]
    go_enter Tryd.func19, Tryd.ntmps19
    go_wp2
    go_ret
    exact ⟨rfl, rfl⟩

/-- what a row has at a place -/
def atZ (Z : Nat → Int) (o n : Nat) (i : Int) : Int := if inRow i n then Z (o + i.toNat) else 0
theorem at_any {w : World} {b o n c : Nat} {t : TypeId} {Z : Nat → Int} (h : TlAt w b t Z) (ho : o + n ≤ 146) (i : Int) :
    Calls Tryd.prog 22 #[.slice (some ⟨b, o, none⟩) n c, .int .i64 i] w fun e w' => e = .returned (.int .i64 (atZ Z o n i)) ∧ w = w' := by
  unfold atZ
  by_cases hi : inRow i n = true
  · have hi' : 0 ≤ i ∧ i < n := by simpa [inRow] using hi
    obtain ⟨k, rfl⟩ := Int.eq_ofNat_of_zero_le hi'.1
    have hk : k < n := by omega
    have hkn : (k : Int) < n := hi'.2
    have hk0 : (0 : Int) ≤ k := by omega
    have hc : w.cell? ⟨b, o + k, none⟩ = some (.int .i64 (Z (o + k))) := h.cell (by omega)
    have HI := Lib.hid hi
    clear h hi hi'
    rw [if_pos HI.out]
    go_enter Tryd.func22, Tryd.ntmps22
    go_wp2_with fail
    refine (within_any _ _ _ _ _).mono ?_
    rintro e w' ⟨rfl, rfl⟩
    rw [HI.out]
    go_wp2
    go_ret
    exact ⟨rfl, rfl⟩
  · have hi' : inRow i n = false := by simpa using hi
    have HI := Lib.hid hi'
    clear hi hi'
    rw [if_neg (by rw [HI.out]; simp)]
    go_enter Tryd.func22, Tryd.ntmps22
    go_wp2_with fail
    refine (within_any _ _ _ _ _).mono ?_
    rintro e w' ⟨rfl, rfl⟩
    rw [HI.out]
    go_wp2
    go_ret
    exact ⟨rfl, rfl⟩

theorem at_q {w : World} {b o n c : Nat} {t : TypeId} {Z : Nat → Int} (h : TlAt w b t Z) (ho : o + n ≤ 146) (i : Int) :
    Calls Tryd.prog 22 #[.slice (some ⟨b, o, none⟩) n c, .int .i64 i] w fun e w' => e = .returned (.int .i64 (atZ Z o n i)) ∧ w' = w :=
  (at_any h ho i).mono fun _ _ ⟨h1, h2⟩ => ⟨h1, h2.symm⟩
theorem what_any {w : World} {b : Nat} {Z : Nat → Int} (h : TlAt w b 52 Z) (i : Int) :
    Calls Tryd.prog 14 #[.pointer (some ⟨b, 0, none⟩), .int .i64 i] w fun e w' => e = .returned (.int .i64 (atZ Z 0 4 i)) ∧ w = w' := by
  have H := Lib.hid h
  clear h
  go_enter Tryd.func14, Tryd.ntmps14
  go_wp2_with fail
  refine (at_any H.out (by decide) _).mono ?_
  rintro e w' ⟨rfl, rfl⟩
  go_wp2
  go_ret
  exact ⟨rfl, rfl⟩
theorem why_any {w : World} {b : Nat} {Z : Nat → Int} (h : TlAt w b 52 Z) (i : Int) :
    Calls Tryd.prog 15 #[.pointer (some ⟨b, 0, none⟩), .int .i64 i] w fun e w' => e = .returned (.int .i64 (atZ Z 4 13 i)) ∧ w = w' := by
  have H := Lib.hid h
  clear h
  go_enter Tryd.func15, Tryd.ntmps15
  go_wp2_with fail
  refine (at_any H.out (by decide) _).mono ?_
  rintro e w' ⟨rfl, rfl⟩
  go_wp2
  go_ret
  exact ⟨rfl, rfl⟩
theorem in_any {w : World} {b : Nat} {Z : Nat → Int} (h : TlAt w b 52 Z) :
    Calls Tryd.prog 18 #[.pointer (some ⟨b, 0, none⟩)] w fun e w' => e = .returned (.int .i64 (Z 17)) ∧ w = w' := by
  have hc : w.cell? ⟨b, 17, none⟩ = some (.int .i64 (Z 17)) := h.cell (by decide)
  clear h
  go_enter Tryd.func18, Tryd.ntmps18
  go_wp2
  go_ret
  exact ⟨rfl, rfl⟩
theorem out_any {w : World} {b : Nat} {Z : Nat → Int} (h : TlAt w b 52 Z) (i : Int) :
    Calls Tryd.prog 16 #[.pointer (some ⟨b, 0, none⟩), .int .i64 i] w fun e w' => e = .returned (.tuple #[.int .i64 (atZ Z 18 64 i), .int .i64 (atZ Z 82 64 i)]) ∧ ∃ n, w' = w.drewN n := by
  have H := Lib.hid h
  clear h
  go_enter Tryd.func16, Tryd.ntmps16
  go_wp2_with fail
  go_quiet ((go_at_call 22; exact Calls.quiet_of_same (at_q (H.out.drewN _) (by decide) _)))
  go_wp2
  go_ret2
  exact ⟨rfl, _, rfl⟩
theorem nil_what (i : Int) (w : World) : Calls Tryd.prog 14 #[.pointer none, .int .i64 i] w fun e w' => e = .returned (.int .i64 0) ∧ w = w' := by
  go_enter Tryd.func14, Tryd.ntmps14
  go_wp2
  go_ret
  exact ⟨rfl, rfl⟩
theorem nil_why (i : Int) (w : World) : Calls Tryd.prog 15 #[.pointer none, .int .i64 i] w fun e w' => e = .returned (.int .i64 0) ∧ w = w' := by
  go_enter Tryd.func15, Tryd.ntmps15
  go_wp2
  go_ret
  exact ⟨rfl, rfl⟩
theorem nil_in (w : World) : Calls Tryd.prog 18 #[.pointer none] w fun e w' => e = .returned (.int .i64 0) ∧ w = w' := by
  go_enter Tryd.func18, Tryd.ntmps18
  go_wp2
  go_ret
  exact ⟨rfl, rfl⟩
theorem nil_out (i : Int) (w : World) : Calls Tryd.prog 16 #[.pointer none, .int .i64 i] w fun e w' => e = .returned (.tuple #[.int .i64 0, .int .i64 0]) ∧ w = w' := by
  go_enter Tryd.func16, Tryd.ntmps16
  go_wp2
  go_ret2
  exact ⟨rfl, rfl⟩
theorem nil_show (w : World) : Calls Tryd.prog 17 #[.pointer none] w fun e w' => e = .returned (.string ⟨#[]⟩) ∧ w = w' := by
  go_enter Tryd.func17, Tryd.ntmps17
  go_wp2
  go_ret
  exact ⟨rfl, rfl⟩

end Go.Proofs.YtpkfmikpgfgbgaaDoor
