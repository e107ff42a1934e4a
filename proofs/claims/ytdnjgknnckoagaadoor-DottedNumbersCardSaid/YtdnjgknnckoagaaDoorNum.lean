/-
  Number, by definition: a text that is a number's digits, 0 to 255. No program in sight.
-/
import Derived.Test.YtdnjgknnckoagaaDoorEnd
namespace Go.Proofs.YtdnjgknnckoagaaDoor

def stepV (n : Nat) (c : Nat) : Option Nat := if c < 48 ∨ 57 < c ∨ (9223372036854775807 - (c - 48)) / 10 < n then none else some (10 * n + (c - 48))
def valB (l : List UInt8) : Option Nat := l.foldl (fun o c => o.bind fun n => stepV n c.toNat) (some 0)
def numB (l : List UInt8) : Option Nat := if l = [] ∨ 19 < l.length then none else (valB l).bind fun n => if Lib.decDigits n = l ∧ n ≤ 255 then some n else none
theorem valB_snoc (l : List UInt8) (c : UInt8) : valB (l ++ [c]) = (valB l).bind fun n => stepV n c.toNat := by simp [valB, List.foldl_append]
theorem numB_sound {l : List UInt8} {n : Nat} (h : numB l = some n) : Lib.decDigits n = l ∧ n ≤ 255 := by
  unfold numB at h
  split at h
  · cases h
  · cases hv : valB l with
    | none => rw [hv] at h; cases h
    | some m =>
      rw [hv] at h
      simp only [Option.bind_some] at h
      split at h
      · rename_i hm; cases h; exact hm
      · cases h
theorem fold_none (l : List UInt8) : l.foldl (fun o c => o.bind fun n => stepV n c.toNat) none = none := by
  induction l with
  | nil => rfl
  | cons c l ih => simpa using ih
theorem valB_none {l m : List UInt8} (h : valB l = none) : valB (l ++ m) = none := by
  unfold valB at h ⊢
  rw [List.foldl_append, h, fold_none]
theorem valB_bad {l : List UInt8} {k m : Nat} {c : UInt8} (hc : l[k]? = some c) (hv : valB (l.take k) = some m) (hs : stepV m c.toNat = none) : valB l = none := by
  have h1 : valB (l.take (k + 1)) = none := by rw [take_snoc hc, valB_snoc, hv]; exact hs
  have h2 := valB_none (m := l.drop (k + 1)) h1
  rwa [List.take_append_drop] at h2
theorem stepV_bd {n c m : Nat} (h : stepV n c = some m) : m ≤ 9223372036854775807 := by
  unfold stepV at h
  split at h
  · cases h
  · rename_i hh
    cases h
    omega
def outN : Option Nat → Value
  | some n => .tuple #[.int .i64 n, .bool true]
  | none => .tuple #[.int .i64 0, .bool false]
end Go.Proofs.YtdnjgknnckoagaaDoor
