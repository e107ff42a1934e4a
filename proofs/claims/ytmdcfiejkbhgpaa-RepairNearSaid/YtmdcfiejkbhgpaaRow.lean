/-
  A row of numbers of the call's own.
-/
import Derived.Test.YtmdcfiejkbhgpaaBf
import Derived.Test.YtmdcfiejkbhgpaaMid
import Derived.Laws.OwnMore
namespace Go.Proofs.Ytmdcfiejkbhgpaa
open Go.RowKit

def cellsN (Z : Int → Int) (N : Nat) : List Value := (List.range N).map fun i : Nat => Value.int .i64 (Z (i : Int))
theorem cellsN_len (Z : Int → Int) (N : Nat) : (cellsN Z N).length = N := by simp [cellsN]
theorem cellsN_at (Z : Int → Int) {N i : Nat} (h : i < N) : (cellsN Z N)[i]? = some (.int .i64 (Z (i : Int))) := by simp [cellsN, h]
theorem cellsN_set (Z : Int → Int) {N i : Nat} (x : Int) : (cellsN Z N).set i (.int .i64 x) = cellsN (updZ Z (i : Int) x) N := by
  apply List.ext_getElem?
  intro j
  rw [List.getElem?_set, cellsN_len]
  by_cases hj : j < N
  · rw [cellsN_at _ hj, cellsN_at _ hj]
    by_cases e : i = j
    · subst e; rw [if_pos rfl, if_pos hj]; simp [updZ]
    · rw [if_neg e]; unfold updZ; rw [if_neg (by omega)]
  · have h1 : (cellsN Z N)[j]? = none := List.getElem?_eq_none (by rw [cellsN_len]; omega)
    have h2 : (cellsN (updZ Z (i : Int) x) N)[j]? = none := List.getElem?_eq_none (by rw [cellsN_len]; omega)
    rw [h1, h2]
    split
    · rw [if_neg (by omega)]
    · rfl
theorem cellsN_congr {Z Y : Int → Int} {N : Nat} (h : ∀ i : Nat, i < N → Z (i : Int) = Y (i : Int)) : cellsN Z N = cellsN Y N := by
  unfold cellsN
  refine List.map_congr_left fun i hi => ?_
  rw [h i (List.mem_range.1 hi)]
/-- N numbers in block b, from B on -/
def RowZ (w : World) (B b N : Nat) (Z : Int → Int) : Prop := w.ownsRow B 3 1 (.slice (some ⟨b, 0, none⟩) N N) N (cellsN Z N)
section
variable {w : World} {B b N : Nat} {Z : Int → Int}
theorem RowZ.cell (h : RowZ w B b N Z) {i : Nat} (hi : i < N) : w.cell? ⟨b, i, none⟩ = some (.int .i64 (Z (i : Int))) := by
  rw [World.ownsRow.cellAt h i (by omega)]; exact cellsN_at Z hi
theorem RowZ.fr (h : RowZ w B b N Z) (i : Nat) : w.frozen? ⟨b, i, none⟩ = false := World.ownsRow.frozenAt h i
theorem RowZ.set (h : RowZ w B b N Z) (i : Nat) (x : Int) : RowZ (w.setCell ⟨b, i, none⟩ (.int .i64 x)) B b N (updZ Z (i : Int) x) := by
  have := (World.ownsRow.stored h i (.int .i64 x)).1
  rw [cellsN_set] at this
  exact this
theorem RowZ.below (h : RowZ w B b N Z) {w' : World} (hb : Below w.heap.size w w') : RowZ w' B b N Z := own_below h hb
theorem RowZ.lo (h : RowZ w B b N Z) : B ≤ b := by
  rcases own_form h with ⟨h0, _⟩ | ⟨g, cap, hv, hg, _⟩
  · cases h0
  · cases hv; exact hg
theorem RowZ.congr (h : RowZ w B b N Z) {Y : Int → Int} (e : ∀ i : Nat, i < N → Z (i : Int) = Y (i : Int)) : RowZ w B b N Y := by
  unfold RowZ
  rw [← cellsN_congr e]; exact h
end
/-- what block b holds for a number -/
def zOf (w : World) (b : Nat) (v : Int) : Int := match w.cell? ⟨b, v.toNat, none⟩ with | some (.int _ z) => z | _ => 0
theorem muZ_of {w : World} {B b N : Nat} {Z : Int → Int} (h : RowZ w B b N Z) {n : Int} (hn : n = N) : muZ (zOf w b) (nodes n) = muZ Z (nodes n) :=
  muZ_congr fun v hv => by
    have h1 := mem_nodes.1 hv
    have h2 := h.cell (i := v.toNat) (by omega)
    unfold zOf
    rw [h2]
    simp only
    congr 1
    omega
theorem nat_of_lt {n v : Int} (h0 : 0 ≤ v) (h1 : v < n) : ∃ k : Nat, v = k ∧ (k : Int) < n := ⟨v.toNat, by omega, by omega⟩

theorem Try.info_int : (Try.prog.info? 3).map (fun i => (i.zero, i.size, i.bytes)) = some (some (.int .i64 0), 1, 8) := by kernel_rfl
theorem info_parts {o : Option TypeInfo} {z : Option Value} {n m : Nat} (h : o.map (fun i => (i.zero, i.size, i.bytes)) = some (z, n, m)) : ∃ i, o = some i ∧ i.zero = z ∧ i.size = n ∧ i.bytes = m := by
  cases o with
  | none => simp at h
  | some i => simp at h; exact ⟨i, rfl, h.1, h.2.1, h.2.2⟩
/-- make([]int, N) -/
theorem make_row {w : World} {B N : Nat} (hB : B ≤ w.heap.size) (hN : N ≤ 1000) : ∃ w', (Instr.makeSlice 29 (.int .i64 (N : Int)) (.int .i64 (N : Int))).run Try.prog w = .ok (.slice (some ⟨w.heap.size, 0, none⟩) N N) w' ∧
    RowZ w' B w.heap.size N (fun _ => 0) ∧ Below w.heap.size w w' := by
  obtain ⟨i0, hi, hz0, hz1, hz2⟩ := info_parts Try.info_int
  obtain ⟨w', h1, h2, h3⟩ := run_make_full (P := Try.prog) w B 29 3 i0 (.int .i64 0) 1 Try.underlying29 hi hz0 hz1 .i64 .i64 N (by rw [hz2]; omega) (by unfold maxLen; omega) hB
  refine ⟨w', h1, ?_, ⟨h3.os, h3.tape, h3.output, h3.size, fun k hk => h3.block k hk (by simp)⟩⟩
  have e : (madeCells (Value.int .i64 0).cells (N * 1)).toList = cellsN (fun _ => 0) N := by
    rw [Nat.mul_one]
    show (madeCells #[Value.int .i64 0] N).toList = _
    rw [toList_madeCells_one]
    unfold cellsN
    rw [List.map_const', List.length_range]
  rw [e] at h2
  exact h2
end Go.Proofs.Ytmdcfiejkbhgpaa
