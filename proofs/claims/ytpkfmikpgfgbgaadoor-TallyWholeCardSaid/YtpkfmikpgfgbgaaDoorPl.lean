/-
  What is counted, as numbers: what a verdict adds. No program in sight.
-/
import Derived.Test.YtpkfmikpgfgbgaaDoorTl
namespace Go.Proofs.YtpkfmikpgfgbgaaDoor

/-- is a verdict counted? -/
def inB (what why : Int) : Bool := decide (0 ≤ what ∧ what < 4 ∧ 0 ≤ why ∧ why < 13)
/-- is its port counted? -/
def outB (what port : Int) : Bool := decide ((what = 0 ∨ what = 3) ∧ 0 ≤ port ∧ port < 64)
def mx0 (size : Int) : Int := if size < 0 then 0 else size
def cut (size : Int) : Int := if 65536 < mx0 size then 65536 else mx0 size
/-- what a verdict adds -/
def dl (what why port : Int) (n : Nat) (size : Int) : Nat → Int := fun i =>
  if inB what why then
    (if (i : Int) = what then 1 else 0) + (if (i : Int) = 4 + why then 1 else 0) + (if i = 17 then cut size else 0) +
      (if outB what port then (if (i : Int) = 18 + port then 1 else 0) + (if (i : Int) = 82 + port then (n : Int) else 0) else 0)
  else 0
def addZ (Z Y : Nat → Int) : Nat → Int := fun i => Z i + Y i
theorem cut_bd (size : Int) : 0 ≤ cut size ∧ cut size ≤ 65536 := by unfold cut mx0; split <;> split at * <;> (try split) <;> omega
theorem dl_bd (what why port : Int) (n : Nat) (size : Int) (hn : n ≤ 65000) (i : Nat) : 0 ≤ dl what why port n size i ∧ dl what why port n size i ≤ 65540 := by
  have := cut_bd size
  unfold dl
  by_cases h : inB what why = true
  · rw [if_pos h]
    have h' : 0 ≤ what ∧ what < 4 ∧ 0 ≤ why ∧ why < 13 := by simpa [inB] using h
    by_cases h2 : outB what port = true
    · rw [if_pos h2]
      have h2' : (what = 0 ∨ what = 3) ∧ 0 ≤ port ∧ port < 64 := by simpa [outB] using h2
      split <;> split <;> split <;> split <;> split <;> omega
    · rw [if_neg h2]
      split <;> split <;> split <;> omega
  · rw [if_neg h]; omega
/-- numbers within a bound -/
def Bd (N : Int) (Z : Nat → Int) : Prop := ∀ i, 0 ≤ Z i ∧ Z i ≤ N
theorem Bd.zero : Bd 0 zeroZ := fun _ => ⟨Int.le_refl _, Int.le_refl _⟩
theorem Bd.add {N M : Int} {Z Y : Nat → Int} (h : Bd N Z) (k : Bd M Y) : Bd (N + M) (addZ Z Y) := fun i => by
  have := h i; have := k i; unfold addZ; omega
theorem Bd.mono {N M : Int} {Z : Nat → Int} (h : Bd N Z) (k : N ≤ M) : Bd M Z := fun i => by have := h i; omega
theorem Bd.dl (what why port : Int) (n : Nat) (size : Int) (hn : n ≤ 65000) : Bd 65540 (dl what why port n size) := dl_bd what why port n size hn
theorem addZ_zero (Z : Nat → Int) : addZ zeroZ Z = Z := by funext i; simp [addZ, zeroZ]
theorem addZ_zero' (Z : Nat → Int) : addZ Z zeroZ = Z := by funext i; simp [addZ, zeroZ]
theorem addZ_comm (Z Y : Nat → Int) : addZ Z Y = addZ Y Z := by funext i; simp [addZ, Int.add_comm]
theorem addZ_assoc (Z Y X : Nat → Int) : addZ (addZ Z Y) X = addZ Z (addZ Y X) := by funext i; simp [addZ, Int.add_assoc]
theorem dl_not {what why : Int} (h : inB what why = false) (port : Int) (n : Nat) (size : Int) : dl what why port n size = zeroZ := by
  funext i; simp [dl, h, zeroZ]

/-- the three places, and the port's two, one behind the other -/
def z1 (Z : Nat → Int) (a : Nat) : Nat → Int := upd Z a (Z a + 1)
def z2 (Z : Nat → Int) (a r : Nat) : Nat → Int := upd (z1 Z a) (4 + r) (z1 Z a (4 + r) + 1)
def z3 (Z : Nat → Int) (a r : Nat) (size : Int) : Nat → Int := upd (z2 Z a r) 17 (z2 Z a r 17 + cut size)
def z4 (Z : Nat → Int) (a r : Nat) (size : Int) (p : Nat) : Nat → Int := upd (z3 Z a r size) (18 + p) (z3 Z a r size (18 + p) + 1)
def z5 (Z : Nat → Int) (a r : Nat) (size : Int) (p n : Nat) : Nat → Int := upd (z4 Z a r size p) (82 + p) (z4 Z a r size p (82 + p) + n)
theorem z1_bd {N : Int} {Z : Nat → Int} (h : Bd N Z) (a : Nat) : Bd (N + 1) (z1 Z a) := fun i => by
  have := h i; have := h a; unfold z1 upd; split <;> omega
theorem z2_bd {N : Int} {Z : Nat → Int} (h : Bd N Z) (a r : Nat) : Bd (N + 2) (z2 Z a r) := fun i => by
  have := z1_bd h a i; have := z1_bd h a (4 + r); unfold z2 upd; split <;> omega
theorem z3_bd {N : Int} {Z : Nat → Int} (h : Bd N Z) (a r : Nat) (size : Int) : Bd (N + 65538) (z3 Z a r size) := fun i => by
  have := z2_bd h a r i; have := z2_bd h a r 17; have := cut_bd size; unfold z3 upd; split <;> omega
theorem z4_bd {N : Int} {Z : Nat → Int} (h : Bd N Z) (a r : Nat) (size : Int) (p : Nat) : Bd (N + 65539) (z4 Z a r size p) := fun i => by
  have := z3_bd h a r size i; have := z3_bd h a r size (18 + p); unfold z4 upd; split <;> omega
theorem z3_eq (Z : Nat → Int) {a r : Nat} (ha : a < 4) (hr : r < 13) (size : Int) {port : Int} (n : Nat) (ho : outB a port = false) : z3 Z a r size = addZ Z (dl a r port n size) := by
  have hi : inB a r = true := by simp [inB]; omega
  funext i
  unfold z3 z2 z1 upd addZ dl
  rw [if_pos hi, ho]
  by_cases h1 : i = a
  · subst h1
    rw [if_neg (by omega), if_neg (by omega), if_pos rfl, if_pos rfl, if_neg (by omega), if_neg (by omega)]; simp
  · by_cases h2 : i = 4 + r
    · subst h2
      rw [if_neg (by omega), if_pos rfl, if_neg (by omega), if_neg (by omega), if_pos (by omega), if_neg (by omega)]; simp
    · by_cases h3 : i = 17
      · subst h3
        rw [if_pos rfl, if_neg (by omega), if_neg (by omega), if_neg (by omega), if_neg (by omega), if_pos rfl]; simp
      · rw [if_neg h3, if_neg h2, if_neg h1, if_neg (by omega), if_neg (by omega), if_neg h3]; simp
theorem z5_eq (Z : Nat → Int) {a r p : Nat} (ha : a < 4) (hr : r < 13) (size : Int) (n : Nat) (ho : outB a p = true) : z5 Z a r size p n = addZ Z (dl a r p n size) := by
  have hi : inB a r = true := by simp [inB]; omega
  have h0 := congrFun (z3_eq Z ha hr size (port := -1) n (by simp [outB]))
  have hno : outB a (-1) = false := by simp [outB]
  have h : ∀ i, dl a r p n size i = dl a r (-1) n size i + ((if (i : Int) = 18 + p then 1 else 0) + (if (i : Int) = 82 + p then (n : Int) else 0)) := fun i => by
    unfold dl
    rw [if_pos hi, if_pos hi, ho, hno]
    simp
  funext i
  have e := h0 i
  have e1 := h0 (18 + p)
  have e2 := h0 (82 + p)
  unfold addZ at e e1 e2 ⊢
  rw [h]
  unfold z5 z4 upd
  by_cases h1 : i = 82 + p
  · subst h1
    rw [if_pos rfl, if_neg (by omega), if_neg (by omega), if_pos (by omega)]
    omega
  · by_cases h2 : i = 18 + p
    · subst h2
      rw [if_neg h1, if_pos rfl, if_pos (by omega), if_neg (by omega)]
      omega
    · rw [if_neg h1, if_neg h2, if_neg (by omega), if_neg (by omega)]
      omega

end Go.Proofs.YtpkfmikpgfgbgaaDoor
