/-
  As many are counted of what became as of why. No program in sight.
-/
import Derived.Test.YtpkfmikpgfgbgaaDoorSteps
namespace Go.Proofs.YtpkfmikpgfgbgaaDoor

def sumTo (Z : Nat → Int) (o : Nat) : Nat → Int
  | 0 => 0
  | k + 1 => sumTo Z o k + Z (o + k)
theorem sumTo_add (Z Y : Nat → Int) (o k : Nat) : sumTo (addZ Z Y) o k = sumTo Z o k + sumTo Y o k := by
  induction k with
  | zero => rfl
  | succ k ih => simp only [sumTo, ih, addZ]; omega
theorem sumTo_zero (o k : Nat) : sumTo zeroZ o k = 0 := by
  induction k with
  | zero => rfl
  | succ k ih => simp only [sumTo, ih, zeroZ]; omega
theorem sumTo_bd {N : Int} {Z : Nat → Int} (h : Bd N Z) (o k : Nat) : 0 ≤ sumTo Z o k ∧ sumTo Z o k ≤ N * k := by
  induction k with
  | zero => simp [sumTo]
  | succ k ih =>
    have := h (o + k)
    have e : N * ((k + 1 : Nat) : Int) = N * k + N := by rw [Int.natCast_succ, Int.mul_add, Int.mul_one]
    rw [e]; simp only [sumTo]; omega
theorem dl_whole (what why port : Int) (n : Nat) (size : Int) : sumTo (dl what why port n size) 0 4 = sumTo (dl what why port n size) 4 13 ∧ 0 ≤ sumTo (dl what why port n size) 0 4 ∧ sumTo (dl what why port n size) 0 4 ≤ 1 := by
  cases h : inB what why with
  | false => rw [dl_not h]; simp [sumTo_zero]
  | true =>
    have h' : 0 ≤ what ∧ what < 4 ∧ 0 ≤ why ∧ why < 13 := by simpa [inB] using h
    have e1 : ∀ i : Nat, i < 4 → dl what why port n size i = if (i : Int) = what then 1 else 0 := by
      intro i hi
      unfold dl
      rw [if_pos h, if_neg (show ¬ ((i : Int) = 4 + why) by omega), if_neg (show ¬ (i = 17) by omega)]
      by_cases h2 : outB what port = true
      · have h2' : (what = 0 ∨ what = 3) ∧ 0 ≤ port ∧ port < 64 := by simpa [outB] using h2
        rw [if_pos h2, if_neg (show ¬ ((i : Int) = 18 + port) by omega), if_neg (show ¬ ((i : Int) = 82 + port) by omega)]; simp
      · rw [if_neg h2]; simp
    have e2 : ∀ i : Nat, i < 13 → dl what why port n size (4 + i) = if (i : Int) = why then 1 else 0 := by
      intro i hi
      unfold dl
      rw [if_pos h, if_neg (show ¬ (((4 + i : Nat) : Int) = what) by omega), if_neg (show ¬ (4 + i = 17) by omega)]
      have e3 : (if ((4 + i : Nat) : Int) = 4 + why then (1 : Int) else 0) = if (i : Int) = why then 1 else 0 := by split <;> split <;> omega
      rw [e3]
      by_cases h2 : outB what port = true
      · have h2' : (what = 0 ∨ what = 3) ∧ 0 ≤ port ∧ port < 64 := by simpa [outB] using h2
        rw [if_pos h2, if_neg (show ¬ (((4 + i : Nat) : Int) = 18 + port) by omega), if_neg (show ¬ (((4 + i : Nat) : Int) = 82 + port) by omega)]; simp
      · rw [if_neg h2]; simp
    have s1 : sumTo (dl what why port n size) 0 4 = 1 := by
      simp only [sumTo, Nat.zero_add]
      rw [e1 0 (by decide), e1 1 (by decide), e1 2 (by decide), e1 3 (by decide)]
      obtain rfl | rfl | rfl | rfl : what = 0 ∨ what = 1 ∨ what = 2 ∨ what = 3 := by omega
      all_goals rfl
    have s2 : sumTo (dl what why port n size) 4 13 = 1 := by
      simp only [sumTo]
      rw [e2 0 (by decide), e2 1 (by decide), e2 2 (by decide), e2 3 (by decide), e2 4 (by decide), e2 5 (by decide), e2 6 (by decide), e2 7 (by decide), e2 8 (by decide), e2 9 (by decide), e2 10 (by decide), e2 11 (by decide), e2 12 (by decide)]
      obtain rfl | rfl | rfl | rfl | rfl | rfl | rfl | rfl | rfl | rfl | rfl | rfl | rfl : why = 0 ∨ why = 1 ∨ why = 2 ∨ why = 3 ∨ why = 4 ∨ why = 5 ∨ why = 6 ∨ why = 7 ∨ why = 8 ∨ why = 9 ∨ why = 10 ∨ why = 11 ∨ why = 12 := by omega
      all_goals rfl
    rw [s1, s2]; decide
theorem sumS_whole (l : List Sp) : sumTo (sumS l) 0 4 = sumTo (sumS l) 4 13 ∧ 0 ≤ sumTo (sumS l) 0 4 ∧ sumTo (sumS l) 0 4 ≤ l.length := by
  suffices hh : ∀ (qs : List Sp) (Z : Nat → Int) (M : Int), (sumTo Z 0 4 = sumTo Z 4 13 ∧ 0 ≤ sumTo Z 0 4 ∧ sumTo Z 0 4 ≤ M) →
      sumTo (qs.foldl (fun Z s => addZ Z (dlS s)) Z) 0 4 = sumTo (qs.foldl (fun Z s => addZ Z (dlS s)) Z) 4 13 ∧ 0 ≤ sumTo (qs.foldl (fun Z s => addZ Z (dlS s)) Z) 0 4 ∧ sumTo (qs.foldl (fun Z s => addZ Z (dlS s)) Z) 0 4 ≤ M + qs.length from by
    have := hh l zeroZ 0 (by simp [sumTo_zero])
    rwa [Int.zero_add] at this
  intro qs
  induction qs with
  | nil => intro Z M h; simpa using h
  | cons p qs ih =>
    intro Z M h
    have e : M + ((p :: qs).length : Int) = (M + 1) + qs.length := by simp; omega
    rw [e]
    have hp := dl_whole p.what p.why p.port p.n p.size
    refine ih (addZ Z (dlS p)) (M + 1) ?_
    rw [sumTo_add, sumTo_add]
    unfold dlS
    omega
theorem whole_two (l1 l2 : List Sp) : sumTo (addZ (sumS l1) (sumS l2)) 4 13 = sumTo (addZ (sumS l1) (sumS l2)) 0 4 ∧ 0 ≤ sumTo (addZ (sumS l1) (sumS l2)) 0 4 ∧ sumTo (addZ (sumS l1) (sumS l2)) 0 4 ≤ l1.length + l2.length := by
  have h1 := sumS_whole l1
  have h2 := sumS_whole l2
  rw [sumTo_add, sumTo_add]
  omega
end Go.Proofs.YtpkfmikpgfgbgaaDoor
