/-
  Interfaces in memory: a row of 64 pointers, and a block for each that is there; at, get, Up, Mtu.
-/
import Derived.Test.YtheggpklgeobkaaDoorLaw
import Derived.Test.YtheggpklgeobkaaDoorMid
namespace Go.Proofs.YtheggpklgeobkaaDoor
open Go.RowKit

/-- an interface that is there: its block, how great a packet may be, whether it is up -/
abbrev PG := Nat → Option (Nat × Int × Bool)
def abs (g : PG) : PS := fun i => (g i).map fun x => x.2
def ptrP (x : Option (Nat × Int × Bool)) : Value := .pointer (x.map fun y => ⟨y.1, 0, none⟩)
def rowP (g : PG) : Array Value := ((List.range 64).map fun i => ptrP (g i)).toArray
@[simp] theorem rowP_size (g : PG) : (rowP g).size = 64 := by simp [rowP]
theorem rowP_at (g : PG) {i : Nat} (h : i < 64) : (rowP g)[i]? = some (ptrP (g i)) := by simp [rowP, h]
def updG (g : PG) (k : Nat) (x : Option (Nat × Int × Bool)) : PG := fun i => if i = k then x else g i
theorem rowP_set (g : PG) {k : Nat} (h : k < 64) (x : Option (Nat × Int × Bool)) : (rowP g).setIfInBounds k (ptrP x) = rowP (updG g k x) := by
  apply Array.ext_getElem?
  intro j
  rw [Array.getElem?_setIfInBounds]
  by_cases hj : j < 64
  · rw [rowP_at _ hj, rowP_at _ hj]
    unfold updG
    by_cases e : k = j
    · subst e; simp [hj]
    · rw [if_neg e, if_neg (fun h => e h.symm)]
  · rw [Array.getElem?_eq_none (by simp; omega)]
    have e2 : (rowP (updG g k x))[j]? = none := Array.getElem?_eq_none (by simp; omega)
    rw [e2]
    split
    · rw [if_neg (by simp; omega)]
    · rfl
theorem abs_upd (g : PG) (k : Nat) (x : Option (Nat × Int × Bool)) : abs (updG g k x) = updP (abs g) k (x.map fun y => y.2) := by
  funext i
  unfold abs updG updP
  split <;> rfl

/-- the interfaces lie in block p, and behind B -/
structure PtsAt (w : World) (p B : Nat) (g : PG) : Prop where
  row : w.heap[p]? = some (.cells (rowP g) 46 (0, 0))
  lo : B ≤ p
  ent : ∀ i, i < 64 → ∀ x, g i = some x → w.heap[x.1]? = some (.cells #[.int .i64 (i : Nat), .int .i64 x.2.1, .bool x.2.2] 42 (0, 0)) ∧ B ≤ x.1
/-- the blocks of the interfaces -/
def OwnP (p : Nat) (g : PG) (k : Nat) : Prop := k = p ∨ ∃ i, i < 64 ∧ ∃ x, g i = some x ∧ x.1 = k
/-- what a change leaves -/
structure Kept (w w' : World) (p : Nat) (g : PG) : Prop where
  os : w'.os = w.os
  tape : w'.tape = w.tape
  output : w'.output = w.output
  size : w.heap.size ≤ w'.heap.size
  blk : ∀ k, k < w.heap.size → ¬ OwnP p g k → w'.heap[k]? = w.heap[k]?
section
variable {w : World} {p B : Nat} {g : PG}
theorem PtsAt.lt (h : PtsAt w p B g) : p < w.heap.size := (Array.getElem?_eq_some_iff.1 h.row).1
theorem PtsAt.ne (h : PtsAt w p B g) {i : Nat} (hi : i < 64) {x : Nat × Int × Bool} (hx : g i = some x) : x.1 ≠ p := by
  intro e
  have h1 := (h.ent i hi x hx).1
  rw [e, h.row] at h1
  have := congrArg (fun o : Option Obj => match o with | some (.cells cs _ _) => cs.size | _ => 0) h1
  simp at this
theorem PtsAt.inj (h : PtsAt w p B g) {i j : Nat} (hi : i < 64) (hj : j < 64) {x y : Nat × Int × Bool} (hx : g i = some x) (hy : g j = some y) (e : x.1 = y.1) : i = j := by
  have h1 := (h.ent i hi x hx).1
  have h2 := (h.ent j hj y hy).1
  rw [e, h2] at h1
  simp at h1
  omega
theorem PtsAt.cell (h : PtsAt w p B g) {i : Nat} (hi : i < 64) : w.cell? ⟨p, i, none⟩ = some (ptrP (g i)) := by rw [cell_of_row w p i _ _ (0, 0) h.row]; exact rowP_at g hi
theorem PtsAt.fr (h : PtsAt w p B g) (i : Nat) : w.frozen? ⟨p, i, none⟩ = false := frozen_of_row w p i _ _ h.row
theorem PtsAt.own_lo (h : PtsAt w p B g) {k : Nat} (hk : OwnP p g k) : B ≤ k := by
  rcases hk with rfl | ⟨i, hi, x, hx, rfl⟩
  · exact h.lo
  · exact (h.ent i hi x hx).2
theorem PtsAt.own_lt (h : PtsAt w p B g) {k : Nat} (hk : OwnP p g k) : k < w.heap.size := by
  rcases hk with rfl | ⟨i, hi, x, hx, rfl⟩
  · exact h.lt
  · exact (Array.getElem?_eq_some_iff.1 (h.ent i hi x hx).1).1
theorem PtsAt.kept_below (h : PtsAt w p B g) {w' : World} (hk : Kept w w' p g) (hB : B ≤ w.heap.size) : Below B w w' :=
  ⟨hk.os, hk.tape, hk.output, hk.size, fun k hlt => hk.blk k (by omega) (fun ho => by have := h.own_lo ho; omega)⟩
theorem PtsAt.below (h : PtsAt w p B g) {w' : World} (hb : Below w.heap.size w w') : PtsAt w' p B g :=
  ⟨by rw [hb.block p h.lt]; exact h.row, h.lo, fun i hi x hx => by
    obtain ⟨h1, h2⟩ := h.ent i hi x hx
    exact ⟨by rw [hb.block _ (Array.getElem?_eq_some_iff.1 h1).1]; exact h1, h2⟩⟩
theorem Kept.refl (w : World) (p : Nat) (g : PG) : Kept w w p g := ⟨rfl, rfl, rfl, Nat.le_refl _, fun _ _ _ => rfl⟩
theorem PtsAt.entC (h : PtsAt w p B g) {i : Nat} (hi : i < 64) {x : Nat × Int × Bool} (hx : g i = some x) :
    x.1 < w.heap.size ∧ w.cell? ⟨x.1, 0, none⟩ = some (.int .i64 (i : Nat)) ∧ w.cell? ⟨x.1, 1, none⟩ = some (.int .i64 x.2.1) ∧ w.cell? ⟨x.1, 2, none⟩ = some (.bool x.2.2) ∧ (∀ j, w.frozen? ⟨x.1, j, none⟩ = false) := by
  have h1 := (h.ent i hi x hx).1
  refine ⟨(Array.getElem?_eq_some_iff.1 h1).1, ?_, ?_, ?_, fun j => frozen_of_row _ _ _ _ _ h1⟩
  · rw [cell_of_row _ _ _ _ _ (0, 0) h1]; rfl
  · rw [cell_of_row _ _ _ _ _ (0, 0) h1]; rfl
  · rw [cell_of_row _ _ _ _ _ (0, 0) h1]; rfl
end

def ret2 (a : Option Addr) (e : Int) : Ending := .returned (.tuple #[.pointer a, .int .i64 e])
theorem at_nil (n : Int) (w : World) : Calls Tryd.prog 23 #[.pointer none, .int .i64 n] w fun e w' => e = ret2 none 1 ∧ w = w' := by
  go_enter Tryd.func23, Tryd.ntmps23
  go_wp2
  go_ret2
  exact ⟨rfl, rfl⟩
theorem at_bad (p : Nat) {n : Int} (h : ¬ inP n) (w : World) : Calls Tryd.prog 23 #[.pointer (some ⟨p, 0, none⟩), .int .i64 n] w fun e w' => e = ret2 none 50 ∧ w = w' := by
  unfold inP at h
  by_cases h0 : n < 0
  · go_enter Tryd.func23, Tryd.ntmps23
    go_wp2
    go_ret2
    exact ⟨rfl, rfl⟩
  · have h1 : 64 ≤ n := by omega
    clear h
    go_enter Tryd.func23, Tryd.ntmps23
    go_wp2
    go_ret2
    exact ⟨rfl, rfl⟩
theorem at_ok (p : Nat) {k : Nat} (h : k < 64) (w : World) : Calls Tryd.prog 23 #[.pointer (some ⟨p, 0, none⟩), .int .i64 (k : Int)] w fun e w' => e = ret2 (some ⟨p, k, none⟩) 0 ∧ w = w' := by
  have h0 : (0 : Int) ≤ k := by omega
  have h1 : (k : Int) < 64 := by omega
  go_enter Tryd.func23, Tryd.ntmps23
  go_wp2
  go_ret2
  exact ⟨rfl, rfl⟩

theorem get_nil (n : Int) (w : World) : Calls Tryd.prog 24 #[.pointer none, .int .i64 n] w fun e w' => e = ret2 none 1 ∧ w = w' := by
  have HA := Lib.hid (at_nil n w)
  unfold ret2 at HA
  go_enter Tryd.func24, Tryd.ntmps24
  go_wp2_with (go_at_call 23; refine (HA.out).mono ?_; rintro e w' ⟨rfl, rfl⟩)
  go_ret2
  exact ⟨rfl, rfl⟩
theorem get_bad (p : Nat) {n : Int} (h : ¬ inP n) (w : World) : Calls Tryd.prog 24 #[.pointer (some ⟨p, 0, none⟩), .int .i64 n] w fun e w' => e = ret2 none 50 ∧ w = w' := by
  have HA := Lib.hid (at_bad p h w)
  unfold ret2 at HA
  clear h
  go_enter Tryd.func24, Tryd.ntmps24
  go_wp2_with (go_at_call 23; refine (HA.out).mono ?_; rintro e w' ⟨rfl, rfl⟩)
  go_ret2
  exact ⟨rfl, rfl⟩
theorem get_none {w : World} {p B : Nat} {g : PG} (hp : PtsAt w p B g) {k : Nat} (h : k < 64) (hn : g k = none) : Calls Tryd.prog 24 #[.pointer (some ⟨p, 0, none⟩), .int .i64 (k : Int)] w fun e w' => e = ret2 none 31 ∧ w = w' := by
  have HA := Lib.hid (at_ok p h w)
  unfold ret2 at HA
  have hc := hp.cell h
  rw [hn] at hc
  change w.cell? ⟨p, k, none⟩ = some (.pointer none) at hc
  clear hp h hn
  go_enter Tryd.func24, Tryd.ntmps24
  go_wp2_with (go_at_call 23; refine (HA.out).mono ?_; rintro e w' ⟨rfl, rfl⟩)
  go_ret2
  exact ⟨rfl, rfl⟩
theorem get_some {w : World} {p B : Nat} {g : PG} (hp : PtsAt w p B g) {k : Nat} (h : k < 64) {x : Nat × Int × Bool} (hn : g k = some x) : Calls Tryd.prog 24 #[.pointer (some ⟨p, 0, none⟩), .int .i64 (k : Int)] w fun e w' => e = ret2 (some ⟨x.1, 0, none⟩) 0 ∧ w = w' := by
  have HA := Lib.hid (at_ok p h w)
  unfold ret2 at HA
  have hc := hp.cell h
  rw [hn] at hc
  change w.cell? ⟨p, k, none⟩ = some (.pointer (some ⟨x.1, 0, none⟩)) at hc
  clear hp h hn
  go_enter Tryd.func24, Tryd.ntmps24
  go_wp2_with (go_at_call 23; refine (HA.out).mono ?_; rintro e w' ⟨rfl, rfl⟩)
  go_ret2
  exact ⟨rfl, rfl⟩

theorem upS_bad {S : PS} {n : Int} (h : ¬ inP n) : upS S n = false := by simp [upS, h]
theorem inP_nat {k : Nat} (h : k < 64) : inP (k : Int) := ⟨by omega, by omega⟩
theorem upS_none {g : PG} {k : Nat} (hn : g k = none) : upS (abs g) (k : Int) = false := by simp [upS, abs, hn]
theorem upS_some {g : PG} {k : Nat} (h : k < 64) {x : Nat × Int × Bool} (hn : g k = some x) : upS (abs g) (k : Int) = x.2.2 := by simp [upS, abs, hn, inP_nat h]
theorem mtuS_bad {S : PS} {n : Int} (h : ¬ inP n) : mtuS S n = 0 := by simp [mtuS, h]
theorem mtuS_none {g : PG} {k : Nat} (hn : g k = none) : mtuS (abs g) (k : Int) = 0 := by simp [mtuS, abs, hn]
theorem mtuS_some {g : PG} {k : Nat} (h : k < 64) {x : Nat × Int × Bool} (hn : g k = some x) : mtuS (abs g) (k : Int) = x.2.1 := by simp [mtuS, abs, hn, inP_nat h]

theorem up_nil (n : Int) (w : World) : Calls Tryd.prog 13 #[.pointer none, .int .i64 n] w fun e w' => e = .returned (.bool false) ∧ w = w' := by
  have HA := Lib.hid (get_nil n w)
  unfold ret2 at HA
  go_enter Tryd.func13, Tryd.ntmps13
  go_wp2_with (go_at_call 24; refine (HA.out).mono ?_; rintro e w' ⟨rfl, rfl⟩)
  go_ret
  exact ⟨rfl, rfl⟩
theorem up_any {w : World} {p B : Nat} {g : PG} (hp : PtsAt w p B g) (n : Int) : Calls Tryd.prog 13 #[.pointer (some ⟨p, 0, none⟩), .int .i64 n] w fun e w' => e = .returned (.bool (upS (abs g) n)) ∧ w = w' := by
  by_cases h : inP n
  · obtain ⟨k, rfl, hk⟩ := nat_of_inP h
    clear h
    cases hn : g k with
    | none =>
      rw [upS_none hn]
      have HA := Lib.hid (get_none hp hk hn)
      unfold ret2 at HA
      clear hp hk hn
      go_enter Tryd.func13, Tryd.ntmps13
      go_wp2_with (go_at_call 24; refine (HA.out).mono ?_; rintro e w' ⟨rfl, rfl⟩)
      go_ret
      exact ⟨rfl, rfl⟩
    | some x =>
      rw [upS_some hk hn]
      have HA := Lib.hid (get_some hp hk hn)
      unfold ret2 at HA
      obtain ⟨-, c0, c1, c2, -⟩ := hp.entC hk hn
      clear hp hk hn
      go_enter Tryd.func13, Tryd.ntmps13
      go_wp2_with (go_at_call 24; refine (HA.out).mono ?_; rintro e w' ⟨rfl, rfl⟩)
      go_ret
      exact ⟨rfl, rfl⟩
  · rw [upS_bad h]
    have HA := Lib.hid (get_bad p h w)
    unfold ret2 at HA
    clear hp h
    go_enter Tryd.func13, Tryd.ntmps13
    go_wp2_with (go_at_call 24; refine (HA.out).mono ?_; rintro e w' ⟨rfl, rfl⟩)
    go_ret
    exact ⟨rfl, rfl⟩
theorem mtu_nil (n : Int) (w : World) : Calls Tryd.prog 14 #[.pointer none, .int .i64 n] w fun e w' => e = .returned (.int .i64 0) ∧ w = w' := by
  have HA := Lib.hid (get_nil n w)
  unfold ret2 at HA
  go_enter Tryd.func14, Tryd.ntmps14
  go_wp2_with (go_at_call 24; refine (HA.out).mono ?_; rintro e w' ⟨rfl, rfl⟩)
  go_ret
  exact ⟨rfl, rfl⟩
theorem mtu_any {w : World} {p B : Nat} {g : PG} (hp : PtsAt w p B g) (n : Int) : Calls Tryd.prog 14 #[.pointer (some ⟨p, 0, none⟩), .int .i64 n] w fun e w' => e = .returned (.int .i64 (mtuS (abs g) n)) ∧ w = w' := by
  by_cases h : inP n
  · obtain ⟨k, rfl, hk⟩ := nat_of_inP h
    clear h
    cases hn : g k with
    | none =>
      rw [mtuS_none hn]
      have HA := Lib.hid (get_none hp hk hn)
      unfold ret2 at HA
      clear hp hk hn
      go_enter Tryd.func14, Tryd.ntmps14
      go_wp2_with (go_at_call 24; refine (HA.out).mono ?_; rintro e w' ⟨rfl, rfl⟩)
      go_ret
      exact ⟨rfl, rfl⟩
    | some x =>
      rw [mtuS_some hk hn]
      have HA := Lib.hid (get_some hp hk hn)
      unfold ret2 at HA
      obtain ⟨-, c0, c1, c2, -⟩ := hp.entC hk hn
      clear hp hk hn
      go_enter Tryd.func14, Tryd.ntmps14
      go_wp2_with (go_at_call 24; refine (HA.out).mono ?_; rintro e w' ⟨rfl, rfl⟩)
      go_ret
      exact ⟨rfl, rfl⟩
  · rw [mtuS_bad h]
    have HA := Lib.hid (get_bad p h w)
    unfold ret2 at HA
    clear hp h
    go_enter Tryd.func14, Tryd.ntmps14
    go_wp2_with (go_at_call 24; refine (HA.out).mono ?_; rintro e w' ⟨rfl, rfl⟩)
    go_ret
    exact ⟨rfl, rfl⟩
end Go.Proofs.YtheggpklgeobkaaDoor
