/-
  What Parse keeps in memory; its closure, which ends a part.
-/
import Derived.Test.YtdnjgknnckoagaaDoorShow
import Derived.Lib.OthersKept
import Derived.WalkSmall
namespace Go.Proofs.YtdnjgknnckoagaaDoor
open Go.RowKit

def row4 (f : Nat → Int) : Array Value := #[.int .u8 (f 0), .int .u8 (f 1), .int .u8 (f 2), .int .u8 (f 3)]
def upd4 (f : Nat → Int) (i : Nat) (n : Int) : Nat → Int := fun j => if j = i then n else f j
theorem row4_set (f : Nat → Int) {i : Nat} (h : i < 4) (n : Int) : (row4 f).setIfInBounds i (.int .u8 n) = row4 (upd4 f i n) := by
  rcases i with _ | _ | _ | _ | i
  · rfl
  · rfl
  · rfl
  · rfl
  · omega
theorem row4_at (f : Nat → Int) {i : Nat} (h : i < 4) : (row4 f)[i]? = some (.int .u8 (f i)) := by
  rcases i with _ | _ | _ | _ | i
  · rfl
  · rfl
  · rfl
  · rfl
  · omega
/-- the result's block, the numbers, how many parts, the part's number, its signs; the text's iterator -/
structure PsAt (W w : World) (B : Nat) (s : ByteArray) (pos : Nat) (f : Nat → Int) (k n g : Int) : Prop where
  rb : w.heap[B]? = some (.cells (row4 fun _ => 0) 22 (0, 0))
  ra : w.heap[B + 1]? = some (.cells (row4 f) 22 (0, 0))
  rk : w.heap[B + 2]? = some (.cells #[.int .i64 k] 3 (0, 0))
  rn : w.heap[B + 3]? = some (.cells #[.int .i64 n] 3 (0, 0))
  rg : w.heap[B + 4]? = some (.cells #[.int .i64 g] 3 (0, 0))
  it : w.heap[B + 5]? = some (.stringIter s pos)
  bel : Below B W w
section
variable {W w : World} {B : Nat} {s : ByteArray} {pos : Nat} {f : Nat → Int} {k n g : Int}
theorem below_set {B : Nat} {W w : World} (h : Below B W w) {b : Nat} (hb : B ≤ b) (i : Nat) (v : Value) : Below B W (w.setCell ⟨b, i, none⟩ v) := h.setCell (p := ⟨b, i, none⟩) hb v
theorem PsAt.setA (h : PsAt W w B s pos f k n g) {i : Nat} (hi : i < 4) (x : Int) : PsAt W (w.setCell ⟨B + 1, i, none⟩ (.int .u8 x)) B s pos (upd4 f i x) k n g :=
  ⟨by rw [heap_setCell_other w _ _ _ (by simp)]; exact h.rb, by rw [heap_setCell_same w _ _ _ _ _ h.ra, row4_set f hi], by rw [heap_setCell_other w _ _ _ (by simp)]; exact h.rk, by rw [heap_setCell_other w _ _ _ (by simp)]; exact h.rn, by rw [heap_setCell_other w _ _ _ (by simp)]; exact h.rg, by rw [heap_setCell_other w _ _ _ (by simp)]; exact h.it, below_set h.bel (by omega) _ _⟩
theorem PsAt.setK (h : PsAt W w B s pos f k n g) (x : Int) : PsAt W (w.setCell ⟨B + 2, 0, none⟩ (.int .i64 x)) B s pos f x n g :=
  ⟨by rw [heap_setCell_other w _ _ _ (by simp)]; exact h.rb, by rw [heap_setCell_other w _ _ _ (by simp)]; exact h.ra, by rw [heap_setCell_same w _ _ _ _ _ h.rk]; rfl, by rw [heap_setCell_other w _ _ _ (by simp)]; exact h.rn, by rw [heap_setCell_other w _ _ _ (by simp)]; exact h.rg, by rw [heap_setCell_other w _ _ _ (by simp)]; exact h.it, below_set h.bel (by omega) _ _⟩
theorem PsAt.setN (h : PsAt W w B s pos f k n g) (x : Int) : PsAt W (w.setCell ⟨B + 3, 0, none⟩ (.int .i64 x)) B s pos f k x g :=
  ⟨by rw [heap_setCell_other w _ _ _ (by simp)]; exact h.rb, by rw [heap_setCell_other w _ _ _ (by simp)]; exact h.ra, by rw [heap_setCell_other w _ _ _ (by simp)]; exact h.rk, by rw [heap_setCell_same w _ _ _ _ _ h.rn]; rfl, by rw [heap_setCell_other w _ _ _ (by simp)]; exact h.rg, by rw [heap_setCell_other w _ _ _ (by simp)]; exact h.it, below_set h.bel (by omega) _ _⟩
theorem PsAt.setG (h : PsAt W w B s pos f k n g) (x : Int) : PsAt W (w.setCell ⟨B + 4, 0, none⟩ (.int .i64 x)) B s pos f k n x :=
  ⟨by rw [heap_setCell_other w _ _ _ (by simp)]; exact h.rb, by rw [heap_setCell_other w _ _ _ (by simp)]; exact h.ra, by rw [heap_setCell_other w _ _ _ (by simp)]; exact h.rk, by rw [heap_setCell_other w _ _ _ (by simp)]; exact h.rn, by rw [heap_setCell_same w _ _ _ _ _ h.rg]; rfl, by rw [heap_setCell_other w _ _ _ (by simp)]; exact h.it, below_set h.bel (by omega) _ _⟩
theorem PsAt.on (h : PsAt W w B s pos f k n g) (pos' : Nat) : PsAt W (w.iterAt (B + 5) s pos') B s pos' f k n g :=
  ⟨by rw [Lib.iterAt_other _ _ _ _ _ (by omega)]; exact h.rb, by rw [Lib.iterAt_other _ _ _ _ _ (by omega)]; exact h.ra, by rw [Lib.iterAt_other _ _ _ _ _ (by omega)]; exact h.rk, by rw [Lib.iterAt_other _ _ _ _ _ (by omega)]; exact h.rn, by rw [Lib.iterAt_other _ _ _ _ _ (by omega)]; exact h.rg, Lib.iterAt_heap _ _ _ _ _ h.it, Lib.below_iterAt h.bel (by omega) _ _⟩
end

set_option maxHeartbeats 1000000 in
/-- there is no part to end -/
theorem end_no {W w : World} {B : Nat} {s : ByteArray} {pos : Nat} {f : Nat → Int} {k : Nat} {n g : Int} (h : PsAt W w B s pos f k n g) (ho : g = 0 ∨ k = 4) :
    Calls Tryd.prog 19 #[.pointer (some ⟨B + 4, 0, none⟩), .pointer (some ⟨B + 2, 0, none⟩), .pointer (some ⟨B + 3, 0, none⟩), .pointer (some ⟨B + 1, 0, none⟩)] w fun e w' => e = .returned (.bool false) ∧ w = w' := by
  have cg : w.cell? ⟨B + 4, 0, none⟩ = some (.int .i64 g) := by rw [cell_of_row _ _ _ _ _ (0, 0) h.rg]; rfl
  have ck : w.cell? ⟨B + 2, 0, none⟩ = some (.int .i64 k) := by rw [cell_of_row _ _ _ _ _ (0, 0) h.rk]; rfl
  clear h
  by_cases h0 : g = 0
  · subst h0
    go_enter Tryd.func19, Tryd.ntmps19
    go_wp2
    go_ret
    exact ⟨rfl, rfl⟩
  · obtain rfl : k = 4 := by rcases ho with e | e; exact absurd e h0; exact e
    have d0 : (g == 0) = false := by simpa using h0
    go_enter Tryd.func19, Tryd.ntmps19
    go_wp2
    go_ret
    exact ⟨rfl, rfl⟩
set_option maxHeartbeats 1000000 in
/-- a part's end -/
theorem end_yes {W w : World} {B : Nat} {s : ByteArray} {pos : Nat} {f : Nat → Int} {k : Nat} {n g : Int} (h : PsAt W w B s pos f k n g) (hk : k < 4) (hn0 : 0 ≤ n) (hn1 : n ≤ 255) (h0 : g ≠ 0) :
    Calls Tryd.prog 19 #[.pointer (some ⟨B + 4, 0, none⟩), .pointer (some ⟨B + 2, 0, none⟩), .pointer (some ⟨B + 3, 0, none⟩), .pointer (some ⟨B + 1, 0, none⟩)] w fun e w' => e = .returned (.bool true) ∧ PsAt W w' B s pos (upd4 f k n) (k + 1 : Nat) 0 0 := by
  have cg : w.cell? ⟨B + 4, 0, none⟩ = some (.int .i64 g) := by rw [cell_of_row _ _ _ _ _ (0, 0) h.rg]; rfl
  have ck : w.cell? ⟨B + 2, 0, none⟩ = some (.int .i64 k) := by rw [cell_of_row _ _ _ _ _ (0, 0) h.rk]; rfl
  have d0 : (g == 0) = false := by simpa using h0
  have d4 : ((k : Int) == 4) = false := by simp; omega
  have hk0 : (0 : Int) ≤ k := by omega
  have hk4 : (k : Int) < 4 := by omega
  have cn : w.cell? ⟨B + 3, 0, none⟩ = some (.int .i64 n) := by rw [cell_of_row _ _ _ _ _ (0, 0) h.rn]; rfl
  have ca : w.cell? ⟨B + 1, k, none⟩ = some (.int .u8 (f k)) := by rw [cell_of_row _ _ _ _ _ (0, 0) h.ra]; exact row4_at f hk
  have fg := frozen_of_row w (B + 4) 0 _ _ h.rg
  have fk := frozen_of_row w (B + 2) 0 _ _ h.rk
  have fn := frozen_of_row w (B + 3) 0 _ _ h.rn
  have fa := frozen_of_row w (B + 1) k _ _ h.ra
  have hw8 : IntKind.u8.wrap n = n := by simp [IntKind.wrap, IntKind.bits, IntKind.signed]; omega
  have HF := Lib.hid ((((h.setA hk n).setK ((k : Int) + 1)).setN 0).setG 0)
  clear h
  go_enter Tryd.func19, Tryd.ntmps19
  go_wp2
  go_ret
  exact ⟨rfl, by simpa using HF.out⟩
end Go.Proofs.YtdnjgknnckoagaaDoor
