/-
  The library's contracts at this translation: slices.Sort of numbers, math/bits.Mul. Laid by names (wip/layhand.py).
-/
import Derived.Shelf.Sort.Plain
import Derived.Shelf.Slices.In.SortNone
import Derived.Shelf.Bits.Mul64
import Derived.Sort.OwnSortedInts
import Derived.Test.YtmdcfiejkbhgpaaInts
namespace Go.Proofs.Ytmdcfiejkbhgpaa
open Go.Shelf Go.RowKit
def handLaysn189_ren : Go.Shelf.Ren := ⟨fun | 125 => 79 | 128 => 91 | 129 => 92 | 189 => 72 | 215 => 98 | 216 => 88 | 257 => 78 | 294 => 82 | 295 => 83 | 296 => 84 | 297 => 85 | 298 => 86 | 299 => 87 | 300 => 89 | 301 => 90 | 328 => 93 | 329 => 94 | 330 => 95 | 331 => 96 | 332 => 97 | 343 => 99 | n => n, fun | 0 => 0 | 3 => 3 | 4 => 4 | 5 => 5 | 9 => 9 | 28 => 29 | 46 => 97 | 51 => 109 | 53 => 112 | 131 => 35 | 182 => 116 | 183 => 117 | 218 => 124 | 222 => 128 | 228 => 130 | 229 => 131 | n => n, fun n => n⟩
theorem handLaysn189 : Go.Proofs.Lays.n189 Try.prog handLaysn189_ren := {
  mixed := by kernel_rfl
  f125 := Try.func79.trans (congrArg some (by kernel_rfl))
  f128 := Try.func91.trans (congrArg some (by kernel_rfl))
  f129 := Try.func92.trans (congrArg some (by kernel_rfl))
  f189 := Try.func72.trans (congrArg some (by kernel_rfl))
  f215 := Try.func98.trans (congrArg some (by kernel_rfl))
  f216 := Try.func88.trans (congrArg some (by kernel_rfl))
  f257 := Try.func78.trans (congrArg some (by kernel_rfl))
  f294 := Try.func82.trans (congrArg some (by kernel_rfl))
  f295 := Try.func83.trans (congrArg some (by kernel_rfl))
  f296 := Try.func84.trans (congrArg some (by kernel_rfl))
  f297 := Try.func85.trans (congrArg some (by kernel_rfl))
  f298 := Try.func86.trans (congrArg some (by kernel_rfl))
  f299 := Try.func87.trans (congrArg some (by kernel_rfl))
  f300 := Try.func89.trans (congrArg some (by kernel_rfl))
  f301 := Try.func90.trans (congrArg some (by kernel_rfl))
  f328 := Try.func93.trans (congrArg some (by kernel_rfl))
  f329 := Try.func94.trans (congrArg some (by kernel_rfl))
  f330 := Try.func95.trans (congrArg some (by kernel_rfl))
  f331 := Try.func96.trans (congrArg some (by kernel_rfl))
  f332 := Try.func97.trans (congrArg some (by kernel_rfl))
  f343 := Try.func99.trans (congrArg some (by kernel_rfl))
  t0 := Try.underlying0
  a0 := Try.isAgg0
  z0 := Try.sizeOf0
  v0 := Try.zeroValue0
  t3 := Try.underlying3
  a3 := Try.isAgg3
  z3 := Try.sizeOf3
  v3 := Try.zeroValue3
  t4 := Try.underlying4
  a4 := Try.isAgg4
  z4 := Try.sizeOf4
  v4 := Try.zeroValue4
  t5 := Try.underlying5
  a5 := Try.isAgg5
  z5 := Try.sizeOf5
  v5 := Try.zeroValue5
  t9 := Try.underlying9
  a9 := Try.isAgg9
  z9 := Try.sizeOf9
  v9 := Try.zeroValue9
  t28 := Try.underlying29
  a28 := Try.isAgg29
  z28 := Try.sizeOf29
  v28 := Try.zeroValue29
  t46 := Try.underlying97
  a46 := Try.isAgg97
  z46 := Try.sizeOf97
  v46 := Try.zeroValue97
  t51 := Try.underlying109
  a51 := Try.isAgg109
  z51 := Try.sizeOf109
  v51 := Try.zeroValue109
  t53 := Try.underlying112
  a53 := Try.isAgg112
  z53 := Try.sizeOf112
  v53 := Try.zeroValue112
  t131 := Try.underlying35
  a131 := Try.isAgg35
  z131 := Try.sizeOf35
  v131 := Try.zeroValue35
  t182 := Try.underlying116
  a182 := Try.isAgg116
  z182 := Try.sizeOf116
  v182 := Try.zeroValue116
  t183 := Try.underlying117
  a183 := Try.isAgg117
  z183 := Try.sizeOf117
  v183 := Try.zeroValue117
  t218 := Try.underlying124
  a218 := Try.isAgg124
  z218 := Try.sizeOf124
  v218 := Try.zeroValue124
  t222 := Try.underlying128
  a222 := Try.isAgg128
  z222 := Try.sizeOf128
  v222 := Try.zeroValue128
  t228 := Try.underlying130
  a228 := Try.isAgg130
  z228 := Try.sizeOf130
  v228 := Try.zeroValue130
  t229 := Try.underlying131
  a229 := Try.isAgg131
  z229 := Try.sizeOf131
  v229 := Try.zeroValue131 }
def handLaysn212_ren : Go.Shelf.Ren := ⟨fun | 212 => 75 | 263 => 80 | 264 => 81 | n => n, fun | 46 => 97 | 51 => 109 | 53 => 112 | 146 => 110 | 148 => 113 | n => n, fun n => n⟩
theorem handLaysn212 : Go.Proofs.Lays.n212 Try.prog handLaysn212_ren := {
  mixed := by kernel_rfl
  f212 := Try.func75.trans (congrArg some (by kernel_rfl))
  f263 := Try.func80.trans (congrArg some (by kernel_rfl))
  f264 := Try.func81.trans (congrArg some (by kernel_rfl))
  t46 := Try.underlying97
  a46 := Try.isAgg97
  z46 := Try.sizeOf97
  v46 := Try.zeroValue97
  t51 := Try.underlying109
  a51 := Try.isAgg109
  z51 := Try.sizeOf109
  v51 := Try.zeroValue109
  t53 := Try.underlying112
  a53 := Try.isAgg112
  z53 := Try.sizeOf112
  v53 := Try.zeroValue112
  t146 := Try.underlying110
  a146 := Try.isAgg110
  z146 := Try.sizeOf110
  v146 := Try.zeroValue110
  t148 := Try.underlying113
  a148 := Try.isAgg113
  z148 := Try.sizeOf113
  v148 := Try.zeroValue113 }

theorem mul_calls (n : Nat) (hn : n ≤ 1000) (w : World) : Calls Try.prog 75 #[.int .u64 1, .int .u64 n] w fun e w' => e = .returned (.tuple #[.int .u64 0, .int .u64 n]) ∧ w' = w := by
  have h := Go.Proofs.Any.bits_Mul handLaysn212 1 n (by omega) (by omega) w
  have e1 : (1 * n / 18446744073709551616 : Nat) = 0 := by omega
  have e2 : (1 * n % 18446744073709551616 : Nat) = n := by omega
  rw [e1, e2] at h
  exact h
def sortI (l : List Int) : List Int := l.mergeSort fun x y => decide (x ≤ y)
theorem sort_calls {w : World} {B : Nat} {v : Value} {l : List Int} (h : IntsAt w B v l) (hl : l.length ≤ 1000000) :
    Calls Try.prog 72 #[v] w fun e w' => e = .returned (.tuple #[]) ∧ IntsAt w' B v (sortI l) ∧ w.grownBy w' v.ownBlock := by
  have hlen : (sortI l).length = l.length := List.length_mergeSort l
  rcases h.2 with ⟨rfl, h0⟩ | ⟨g, cap, cur, rfl, hb, hg, hn, hc, hs, ht⟩
  · have hl0 : l = [] := List.eq_nil_of_length_eq_zero h0
    subst hl0
    refine (Go.Proofs.Any.slices_Sort_int_none handLaysn189 none 0 w).mono ?_
    rintro e w' ⟨he, hw⟩
    have e0 : sortI [] = [] := by simp [sortI]
    refine ⟨he, by rw [e0, hw]; exact h, ?_⟩
    rw [hw]
    exact ⟨rfl, rfl, rfl, Nat.le_refl _, fun _ _ _ => rfl⟩
  · have hH := Go.holds_of_blockI hg (by rw [Nat.mul_one] at ht; exact ht)
    refine (Go.Proofs.Any.slices_Sort_int handLaysn189 g 0 cap l w hH (Array.getElem?_eq_some_iff.1 hg).1 (by omega)).mono ?_
    rintro e w' ⟨he, n, os, rfl⟩
    refine ⟨he, ?_, Go.grownBy_sortedI _⟩
    unfold IntsAt
    rw [hlen]
    exact Go.ownsRow_sortedI hlen hb hg hn hc hs
#print axioms sort_calls
#print axioms mul_calls
end Go.Proofs.Ytmdcfiejkbhgpaa
