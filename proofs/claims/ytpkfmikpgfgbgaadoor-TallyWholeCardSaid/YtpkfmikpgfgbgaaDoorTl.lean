/-
  A tally in memory: 146 numbers in a row, read and written as one; the laws that the walk takes for whole tallies and their rows.
-/
import Derived.Test.YtpkfmikpgfgbgaaDoorMid
namespace Go.Proofs.YtpkfmikpgfgbgaaDoor
open Go.RowKit

/-- the cells of 146 numbers -/
def cellsZ (Z : Nat → Int) : Array Value := ((List.range 146).map fun i => Value.int .i64 (Z i)).toArray
/-- n numbers from place o on -/
def rowZ (Z : Nat → Int) (o n : Nat) : Array Value := ((List.range n).map fun i => Value.int .i64 (Z (o + i))).toArray
@[simp] theorem cellsZ_size (Z : Nat → Int) : (cellsZ Z).size = 146 := by simp [cellsZ]
@[simp] theorem rowZ_size (Z : Nat → Int) (o n : Nat) : (rowZ Z o n).size = n := by simp [rowZ]
theorem cellsZ_at (Z : Nat → Int) {i : Nat} (h : i < 146) : (cellsZ Z)[i]? = some (.int .i64 (Z i)) := by simp [cellsZ, h]
theorem rowZ_at (Z : Nat → Int) (o : Nat) {i n : Nat} (h : i < n) : (rowZ Z o n)[i]? = some (.int .i64 (Z (o + i))) := by simp [rowZ, h]
theorem cellsZ_one (Z : Nat → Int) : (cellsZ Z).all (·.oneCell') = true := by
  rw [Array.all_eq_true_iff_forall_mem]
  intro v hv
  simp [cellsZ] at hv
  obtain ⟨i, _, rfl⟩ := hv
  rfl
theorem cellsZ_congr {Y Z : Nat → Int} (h : ∀ i, i < 146 → Y i = Z i) : cellsZ Y = cellsZ Z := by
  unfold cellsZ
  congr 1
  refine List.map_congr_left fun i hi => ?_
  rw [h i (List.mem_range.1 hi)]
theorem cellsZ_inj {Y Z : Nat → Int} (h : cellsZ Y = cellsZ Z) {i : Nat} (hi : i < 146) : Y i = Z i := by
  have h1 := cellsZ_at Y hi
  rw [h, cellsZ_at Z hi] at h1
  simpa using h1.symm
theorem extract_rowZ (Z : Nat → Int) {o n : Nat} (h : o + n ≤ 146) : (cellsZ Z).extract o (o + n) = rowZ Z o n := by
  apply Array.ext_getElem?
  intro i
  rw [Array.getElem?_extract]
  by_cases hi : i < n
  · rw [if_pos (by simp; omega), cellsZ_at Z (by omega), rowZ_at Z o hi]
  · rw [if_neg (by simp; omega), Array.getElem?_eq_none (by simp; omega)]
@[simp] theorem extract_why (Z : Nat → Int) : (cellsZ Z).extract 4 17 = rowZ Z 4 13 := extract_rowZ Z (o := 4) (n := 13) (by decide)
@[simp] theorem extract_many (Z : Nat → Int) : (cellsZ Z).extract 18 82 = rowZ Z 18 64 := extract_rowZ Z (o := 18) (n := 64) (by decide)
/-- a number put at a place -/
def upd (Z : Nat → Int) (i : Nat) (n : Int) : Nat → Int := fun j => if j = i then n else Z j
theorem cellsZ_set (Z : Nat → Int) {i : Nat} (h : i < 146) (n : Int) : (cellsZ Z).setIfInBounds i (.int .i64 n) = cellsZ (upd Z i n) := by
  apply Array.ext_getElem?
  intro j
  rw [Array.getElem?_setIfInBounds]
  by_cases hj : j < 146
  · rw [cellsZ_at _ hj, cellsZ_at _ hj]
    unfold upd
    by_cases e : i = j
    · subst e; simp [hj]
    · rw [if_neg e, if_neg (fun h => e h.symm)]
  · rw [Array.getElem?_eq_none (by simp; omega)]
    have e2 : (cellsZ (upd Z i n))[j]? = none := Array.getElem?_eq_none (by simp; omega)
    rw [e2]
    split
    · rw [if_neg (by simp; omega)]
    · rfl

/-- what a block holds -/
def csOf (w : World) (b : Nat) : Array Value := match w.heap[b]? with | some (.cells cs _ _) => cs | _ => #[]
/-- a block of 146 cells of a type -/
def TOk (w : World) (b : Nat) (t : TypeId) : Prop := w.heap[b]? = some (.cells (csOf w b) t (0, 0)) ∧ (csOf w b).size = 146
/-- a tally lies in block b -/
def TlAt (w : World) (b : Nat) (t : TypeId) (Z : Nat → Int) : Prop := w.heap[b]? = some (.cells (cellsZ Z) t (0, 0))

section
variable {w : World} {b : Nat} {t : TypeId} {Z : Nat → Int}
theorem TlAt.cs (h : TlAt w b t Z) : csOf w b = cellsZ Z := by
  have h' : w.heap[b]? = some (.cells (cellsZ Z) t (0, 0)) := h
  simp [csOf, h']
theorem TlAt.ok (h : TlAt w b t Z) : TOk w b t := ⟨by rw [h.cs]; exact h, by rw [h.cs]; simp⟩
theorem TlAt.cell (h : TlAt w b t Z) {i : Nat} (hi : i < 146) : w.cell? ⟨b, i, none⟩ = some (.int .i64 (Z i)) := by rw [cell_of_row w b i _ _ (0, 0) h]; exact cellsZ_at Z hi
theorem TlAt.fr (h : TlAt w b t Z) (i : Nat) : w.frozen? ⟨b, i, none⟩ = false := frozen_of_row w b i _ _ h
theorem TlAt.lt (h : TlAt w b t Z) : b < w.heap.size := (Array.getElem?_eq_some_iff.1 (show w.heap[b]? = some _ from h)).1
theorem TlAt.set (h : TlAt w b t Z) {i : Nat} (hi : i < 146) (n : Int) : TlAt (w.setCell ⟨b, i, none⟩ (.int .i64 n)) b t (upd Z i n) := by
  unfold TlAt
  rw [heap_setCell_same w b i _ _ _ h, cellsZ_set Z hi]
theorem TlAt.other (h : TlAt w b t Z) {g i : Nat} (hg : b ≠ g) (v : Value) : TlAt (w.setCell ⟨g, i, none⟩ v) b t Z := by
  unfold TlAt
  rw [heap_setCell_other w ⟨g, i, none⟩ b v hg]; exact h
theorem TlAt.grown {w' : World} {g : Option Nat} (h : TlAt w b t Z) (hg : w.grownBy w' g) (hb : g ≠ some b) : TlAt w' b t Z := by
  unfold TlAt
  rw [hg.block b h.lt (fun e => hb e.symm)]; exact h
theorem TlAt.below {w' : World} (h : TlAt w b t Z) (hb : Below w.heap.size w w') : TlAt w' b t Z := by
  unfold TlAt
  rw [hb.block b h.lt]; exact h
theorem TlAt.new (w : World) (t : TypeId) (Z : Nat → Int) : TlAt (w.alloc (.cells (cellsZ Z) t)) w.heap.size t Z := heap_alloc_new _ _
theorem TlAt.drewN (h : TlAt w b t Z) (n : Nat) : TlAt (w.drewN n) b t Z := h
theorem TlAt.congr {Y : Nat → Int} (h : TlAt w b t Z) (e : ∀ i, i < 146 → Z i = Y i) : TlAt w b t Y := by
  unfold TlAt
  rw [← cellsZ_congr e]; exact h
end

/-- a whole tally put into a block -/
def setT (w : World) (b : Nat) (cs : Array Value) : World := w.setCells b 0 cs.toList

theorem setCells_at_cs {b : Nat} {t : TypeId} : ∀ (vs : List Value) (o : Nat) (w : World) (cs : Array Value), w.heap[b]? = some (.cells cs t (0, 0)) →
    ∃ ds, (w.setCells b o vs).heap[b]? = some (.cells ds t (0, 0)) ∧ ds.size = cs.size ∧ (∀ q : Nat, ds[q]? = if o ≤ q ∧ q < o + vs.length ∧ q < cs.size then vs[q - o]? else cs[q]?)
  | [], o, w, cs, h => ⟨cs, h, rfl, fun q => by rw [if_neg (by simp; omega)]⟩
  | v :: vs, o, w, cs, h => by
    obtain ⟨ds, h1, h2, h3⟩ := setCells_at_cs vs (o + 1) (w.setCell ⟨b, o, none⟩ v) _ (heap_setCell_same w b o cs t v h)
    refine ⟨ds, h1, by rw [h2]; simp, fun q => ?_⟩
    rw [h3 q, Array.size_setIfInBounds, Array.getElem?_setIfInBounds]
    by_cases hq : o = q
    · subst hq
      rw [if_neg (by omega), if_pos rfl]
      by_cases h4 : o < cs.size
      · rw [if_pos h4, if_pos ⟨Nat.le_refl _, by simp, h4⟩]; simp
      · rw [if_neg h4, if_neg (by omega), Array.getElem?_eq_none (by omega)]
    · rw [if_neg hq]
      by_cases h4 : o + 1 ≤ q ∧ q < o + 1 + vs.length ∧ q < cs.size
      · rw [if_pos h4, if_pos (by simp; omega), show q - o = (q - (o + 1)) + 1 by omega]; simp
      · rw [if_neg h4, if_neg (by simp; omega)]

theorem TlAt.putT {w : World} {b : Nat} {t : TypeId} {Y : Nat → Int} (h : TlAt w b t Y) (Z : Nat → Int) : TlAt (setT w b (cellsZ Z)) b t Z := by
  obtain ⟨ds, h1, h2, h3⟩ := setCells_at_cs (cellsZ Z).toList 0 w _ h
  unfold TlAt
  show (w.setCells b 0 (cellsZ Z).toList).heap[b]? = _
  rw [h1]
  have : ds = cellsZ Z := by
    apply Array.ext_getElem?
    intro q
    rw [h3 q]
    by_cases hq : q < 146
    · rw [if_pos (by simp; exact hq)]; simp
    · rw [if_neg (by simp; omega), Array.getElem?_eq_none (by simp; omega), Array.getElem?_eq_none (by simp; omega)]
  rw [this]
theorem setT_grown (w : World) (b : Nat) (cs : Array Value) : w.grownBy (setT w b cs) (some b) := grown_setCells _ _ _
@[simp] theorem setT_size (w : World) (b : Nat) (cs : Array Value) : (setT w b cs).heap.size = w.heap.size := by
  unfold setT
  generalize cs.toList = vs
  suffices h : ∀ (vs : List Value) (o : Nat) (w : World), (w.setCells b o vs).heap.size = w.heap.size from h vs 0 w
  intro vs
  induction vs with
  | nil => intro o w; rfl
  | cons v vs ih => intro o w; exact (ih (o + 1) _).trans (by simp)

/-! ### the laws that the walk takes -/
def zeroZ : Nat → Int := fun _ => 0
theorem infoT : (Tryd.prog.info? 31).map (·.size) = some 146 := by kernel_rfl
theorem infoP : (Tryd.prog.info? 52).map (·.size) = some 146 := by kernel_rfl
theorem info13 : (Tryd.prog.info? 28).map (·.size) = some 13 := by kernel_rfl
theorem info64 : (Tryd.prog.info? 29).map (·.size) = some 64 := by kernel_rfl
@[go_sem ↓, go_sem] theorem alloc_T (w : World) : (Instr.alloc 31 true (.tuple #[])).run Tryd.prog w = .ok (.pointer (some ⟨w.heap.size, 0, none⟩)) (w.alloc (.cells (cellsZ zeroZ) 31)) := by kernel_rfl
@[go_sem ↓, go_sem] theorem alloc_P (w : World) : (Instr.alloc 52 true (.tuple #[])).run Tryd.prog w = .ok (.pointer (some ⟨w.heap.size, 0, none⟩)) (w.alloc (.cells (cellsZ zeroZ) 52)) := by kernel_rfl
@[go_sem] theorem zero_T (w : World) : (zeroValue 31).run Tryd.prog w = .ok (.agg (cellsZ zeroZ)) w := by kernel_rfl
@[go_sem] theorem zero_P (w : World) : (zeroValue 52).run Tryd.prog w = .ok (.agg (cellsZ zeroZ)) w := by kernel_rfl

theorem range_of {w : World} {b : Nat} {t : TypeId} (h : TOk w b t) (o n : Nat) : w.rangeAt b o ((csOf w b).extract o (o + n)).toList :=
  World.rangeAt_of_block h.1 o n
/-- whole tallies and their rows, read and written, behind names: the walk takes what they come to from the facts at hand -/
def ldS (ty : TypeId) (a : Addr) : Sem Value := loadVar ty a
def stS (ty : TypeId) (a : Addr) (v : Value) : Sem Unit := storeVar ty a v
@[go_sem ↓] theorem loadVar_T (a : Addr) : loadVar 31 a = ldS 31 a := rfl
@[go_sem ↓] theorem loadVar_13 (a : Addr) : loadVar 28 a = ldS 28 a := rfl
@[go_sem ↓] theorem loadVar_64 (a : Addr) : loadVar 29 a = ldS 29 a := rfl
@[go_sem ↓] theorem storeVar_T (a : Addr) (v : Value) : storeVar 31 a v = stS 31 a v := rfl
theorem TlAt.ldT {w : World} {b : Nat} {Z : Nat → Int} (h : TlAt w b 31 Z)  : (ldS 31 ⟨b, 0, none⟩).run Tryd.prog w = .ok (.agg (cellsZ Z)) w :=
  run_loadVar_row w b _ 31 _ _ _ h Tryd.underlying31 rfl (by rw [cellsZ_size]; exact infoT)
theorem TlAt.ld13 {w : World} {b : Nat} {t : TypeId} {Z : Nat → Int} (h : TlAt w b t Z) : (ldS 28 ⟨b, 4, none⟩).run Tryd.prog w = .ok (.agg (rowZ Z 4 13)) w := by
  have h1 := range_of h.ok 4 13
  rw [h.cs] at h1
  have h2 : (cellsZ Z).extract 4 (4 + 13) = rowZ Z 4 13 := extract_rowZ Z (by decide)
  rw [h2] at h1
  have := run_loadVar_mid (P := Tryd.prog) w b 4 28 (rowZ Z 4 13).toList _ h1 Tryd.underlying28 rfl (by rw [info13]; simp)
  rw [Array.toArray_toList] at this
  exact this
theorem TlAt.ld64 {w : World} {b : Nat} {t : TypeId} {Z : Nat → Int} (h : TlAt w b t Z) : (ldS 29 ⟨b, 18, none⟩).run Tryd.prog w = .ok (.agg (rowZ Z 18 64)) w := by
  have h1 := range_of h.ok 18 64
  rw [h.cs] at h1
  have h2 : (cellsZ Z).extract 18 (18 + 64) = rowZ Z 18 64 := extract_rowZ Z (by decide)
  rw [h2] at h1
  have := run_loadVar_mid (P := Tryd.prog) w b 18 29 (rowZ Z 18 64).toList _ h1 Tryd.underlying29 rfl (by rw [info64]; simp)
  rw [Array.toArray_toList] at this
  exact this
theorem there_of {w : World} {b : Nat} {t : TypeId} (h : TOk w b t) : w.there b 0 146 := fun j hj => by
  refine ⟨?_, frozen_of_row w b _ _ _ h.1⟩
  rw [cell_of_row w b _ _ _ (0, 0) h.1, Array.getElem?_eq_getElem (by have := h.2; omega)]
  rfl
theorem TlAt.stT {w : World} {b : Nat} {Y : Nat → Int} (h : TlAt w b 31 Y) (Z : Nat → Int) : (stS 31 ⟨b, 0, none⟩ (.agg (cellsZ Z))).run Tryd.prog w = .ok () (setT w b (cellsZ Z)) :=
  run_storeVar_mid w b 0 31 (cellsZ Z) (by rw [cellsZ_size]; exact there_of h.ok) (by rw [cellsZ_size]; exact infoT) (cellsZ_one Z)
/-- results that are whole tallies, behind a name -/
def resT (f : Func) (tmps : Array Value) : Sem Value := results f tmps
@[go_sem ↓] theorem results_add (tmps : Array Value) : results Tryd.f9 tmps = resT Tryd.f9 tmps := rfl
@[go_sem ↓] theorem results_sum (tmps : Array Value) : results Tryd.f13 tmps = resT Tryd.f13 tmps := rfl
theorem TlAt.res {w : World} {b : Nat} {Z : Nat → Int} (h : TlAt w b 31 Z) {fn : Func} {p : Tmp} (hf : fn.results = #[.cell p 31]) (tmps : Array Value) (hp : tmps.getD p undef = .pointer (some ⟨b, 0, none⟩)) :
    (results fn tmps).run Tryd.prog w = .ok (.agg (cellsZ Z)) w :=
  results_cell_row hf tmps w b _ _ _ _ hp h Tryd.underlying31 rfl (by rw [cellsZ_size]; exact infoT)
theorem index_any (ty : TypeId) (n : Nat) (hu : Tryd.prog.underlying ty = some (.array n 3)) (Z : Nat → Int) (o k : Nat) (hk : k < n) (w : World) :
    (Instr.index ty (.agg (rowZ Z o n)) (.int .i64 (k : Int))).run Tryd.prog w = .ok (.int .i64 (Z (o + k))) w := by
  have ha : (isAgg 3).run Tryd.prog w = .ok false w := by kernel_rfl
  have hs : (sizeOf 3).run Tryd.prog w = .ok 1 w := by kernel_rfl
  have hc := rowZ_at Z o hk
  have h0 : (0 : Int) ≤ k := by omega
  have h1 : (k : Int) < n := by omega
  have h2 : (0 : Int) ≤ k ∧ (k : Int) < n := ⟨h0, h1⟩
  have hp : (part 3 (rowZ Z o n) ((k : Int).toNat * 1)).run Tryd.prog w = .ok (.int .i64 (Z (o + k))) w := by
    simp [part, Sem.run_bind, ha, hc]
  unfold Instr.index
  simp only [Sem.run_bind, asIntOf, Sem.run_pure, Result.andThen_ok, run_underlying hu w, if_pos h2, hs, hp]
@[go_sem ↓, go_sem] theorem index_13 (Z : Nat → Int) (o k : Nat) (hk : k < 13) (w : World) : (Instr.index 28 (.agg (rowZ Z o 13)) (.int .i64 (k : Int))).run Tryd.prog w = .ok (.int .i64 (Z (o + k))) w :=
  index_any _ 13 Tryd.underlying28 Z o k hk w
@[go_sem ↓, go_sem] theorem index_64 (Z : Nat → Int) (o k : Nat) (hk : k < 64) (w : World) : (Instr.index 29 (.agg (rowZ Z o 64)) (.int .i64 (k : Int))).run Tryd.prog w = .ok (.int .i64 (Z (o + k))) w :=
  index_any _ 64 Tryd.underlying29 Z o k hk w

end Go.Proofs.YtpkfmikpgfgbgaaDoor
