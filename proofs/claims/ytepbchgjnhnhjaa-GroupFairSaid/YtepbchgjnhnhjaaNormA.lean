/-
  Same compares two rows of ways; group.common is the greatest common divisor.
-/
import Derived.Test.YtepbchgjnhnhjaaWithout
import Derived.ScopeJumps
namespace Go.Proofs.Ytepbchgjnhnhjaa
open Go.RowKit

theorem neq_way (x y : Int × Int) (w : World) :
    (binOp .neq 37 (.agg #[.int .i64 x.1, .int .i64 x.2]) (.agg #[.int .i64 y.1, .int .i64 y.2])).run Try.prog w = .ok (.bool (!decide (x = y))) w := by
  have u3 := Try.underlying3
  have a3 := Try.isAgg3
  have z3 := Try.sizeOf3
  have hS : Try.prog.underlying 37 = some (.struct (Try.prog.fieldsOf 37)) := by kernel_rfl
  have hp : Try.prog.stoodInHeld 37 = false := by kernel_rfl
  rw [run_neq_struct, show (10000 : Nat) = 9999 + 1 from rfl, run_equalIn_agg w 9999 37 _ _ hS hp]
  simp only [Program.fieldsOf, Try.underlying37]
  go_simp
  obtain ⟨x1, x2⟩ := x
  obtain ⟨y1, y2⟩ := y
  by_cases h1 : x1 = y1 <;> by_cases h2 : x2 = y2 <;> simp [h1, h2]

theorem guard_way : Try.prog.eqGuardType Try.prog.depth 37 = false := by kernel_rfl

set_option maxHeartbeats 1000000 in
theorem refSame_any (A A' : Option Addr) (n n' c c' : Nat) (l m : List (Int × Int)) (w : World) (hl : Ways w A n l) (hm : Ways w A' n' m) (hn : n ≤ 4611686018427387903) :
    Calls Try.prog 16 #[.slice A n c, .slice A' n' c'] w fun e w' => e = .returned (.bool (decide (l = m))) ∧ Below w.heap.size w w' := by
  have HL := Lib.hid hl; have HM := Lib.hid hm
  clear hl hm
  have hb : ∃ b, b = decide (l = m) := ⟨_, rfl⟩
  obtain ⟨r, hr⟩ := hb
  rw [← hr]
  have HR := Lib.hid hr
  clear hr
  by_cases hnn : (n : Int) = n'
  · have hnn' : n = n' := by omega
    subst hnn'
    have hbne : ((n : Int) != n) = false := by simp
    go_enter Try.func16, Try.ntmps16
    go_wp2
    go_loopw [5] (fun v W => ∃ k : Nat, k ≤ n ∧ v = .int .i64 k ∧ Below w.heap.size w W ∧ ∀ j, j < k → l[j]? = m[j]?) (fun v _ => n - (intOf v).toNat)
    case atStart => exact ⟨0, Nat.zero_le _, rfl, Below.refl _ _, fun j hj => absurd hj (by omega)⟩
    case round =>
      obtain ⟨k, hk, rfl, hbk, hp⟩ := hrel
      have HP := Lib.hid hp
      clear hp
      by_cases hlt : k < n
      · obtain ⟨x, b, off, hx, hA, hc0, hc1⟩ := (HL.out.below hbk).at_ hlt
        obtain ⟨y, b', off', hy, hA', hd0, hd1⟩ := (HM.out.below hbk).at_ hlt
        subst hA hA'
        have hk0 : (0 : Int) ≤ (k : Int) := by omega
        have hkn : (k : Int) < (n : Int) := by omega
        have hq := fun W => neq_way x y W
        have hg := guard_way
        have HX := Lib.hid hx; have HY := Lib.hid hy
        clear hx hy
        cases hxy : decide (x = y)
        · rw [hxy] at hq
          have HXY := Lib.hid hxy
          clear hxy
          go_wp2
          go_quiet (fail)
          go_wp2
          go_ret
          refine ⟨ret_bool ?_, below_drewN hbk _⟩
          rw [HR.out]
          refine (decide_eq_false ?_).symm
          intro he
          have := HX.out
          rw [he, HY.out] at this
          exact of_decide_eq_false HXY.out (Option.some.inj this).symm
        · rw [hxy] at hq
          have HXY := Lib.hid hxy
          clear hxy
          go_wp2
          go_quiet (fail)
          go_wp2
          go_roundw
          case rel =>
            refine ⟨k + 1, by omega, by go_num, below_drewN hbk _, fun j hj => ?_⟩
            by_cases hjk : j = k
            · rw [hjk, HX.out, HY.out, of_decide_eq_true HXY.out]
            · exact HP.out j (by omega)
          case measure => simp [intOf]; omega
      · have hkn : n = k := by omega
        subst hkn
        go_wp2
        go_ret
        refine ⟨ret_bool ?_, hbk⟩
        rw [HR.out]
        refine (decide_eq_true ?_).symm
        apply List.ext_getElem?
        intro j
        by_cases hj : j < n
        · exact HP.out j hj
        · rw [List.getElem?_eq_none (by have := HL.out.1; omega), List.getElem?_eq_none (by have := HM.out.1; omega)]
  · have hbne : ((n : Int) != n') = true := by simpa using hnn
    go_enter Try.func16, Try.ntmps16
    go_wp2
    go_ret
    refine ⟨ret_bool ?_, Below.refl _ _⟩
    rw [HR.out]
    refine (decide_eq_false ?_).symm
    intro he
    have h1 := HL.out.1
    have h2 := HM.out.1
    rw [he] at h1
    omega

set_option maxHeartbeats 1000000 in
theorem common_any (a b : Int) (w : World) (ha : 0 ≤ a) (hb : 0 ≤ b) :
    Calls Try.prog 30 #[.int .i64 a, .int .i64 b] w fun e w' => e = .returned (.int .i64 (Int.gcd a b)) ∧ Below w.heap.size w w' := by
  have hg : ∃ g : Int, g = Int.gcd a b := ⟨_, rfl⟩
  obtain ⟨g, hg⟩ := hg
  rw [← hg]
  have HG := Lib.hid hg
  clear hg
  go_enter Try.func30, Try.ntmps30
  go_wp2
  refine wp_scope_jumps 0 (fun a' w' => Below w.heap.size w w' ∧ ∃ (x y : Int) (u5 u6 u7 u8 u9 u10 u11 : Value), a' = { tmps := #[.int .i64 x, .int .i64 y, undef, undef, .int .i64 0, u5, u6, u7, u8, u9, u10, u11], defers := [] } ∧ 0 ≤ x ∧ 0 ≤ y ∧ g = Int.gcd x y) (fun a' _ => (intOf (a'.tmps.getD 1 undef)).toNat) rfl ?_ ?_
  · by_cases hb0 : b = 0
    · subst hb0
      go_wp2
      go_step3
      go_wp2
      simp only [Exit.jump]
      go_ret
      refine ⟨ret_int ?_, Below.refl _ _⟩
      rw [HG.out, Int.gcd_zero_right]
      omega
    · have hne : (b == 0) = false := by simpa using hb0
      have hm0 := Int.emod_nonneg a hb0
      have hb1 : 1 ≤ b := by omega
      go_wp2
      go_step3
      go_wp2
      go_quiet (fail)
      go_wp2
      go_step3
      refine ⟨rfl, below_drewN (Below.refl _ _) _, b, a % b, _, _, _, _, _, _, _, rfl, hb, hm0, ?_⟩
      rw [HG.out, Grp.gcd_step a b ha hb]
  · rintro a' w' ⟨hbw, x, y, u5, u6, u7, u8, u9, u10, u11, rfl, hx, hy, hg⟩
    have HG' := Lib.hid hg
    clear hg
    by_cases hb0 : y = 0
    · subst hb0
      go_wp2
      simp only [Exit.jump]
      go_ret
      refine ⟨ret_int ?_, hbw⟩
      rw [HG'.out, Int.gcd_zero_right]
      omega
    · have hne : (y == 0) = false := by simpa using hb0
      have hm0 := Int.emod_nonneg x hb0
      have hm1 := Int.emod_lt_of_pos x (show 0 < y by omega)
      have hb1 : 1 ≤ y := by omega
      go_wp2
      go_quiet (fail)
      go_wp2
      go_step3
      refine ⟨rfl, ⟨below_drewN hbw _, y, x % y, _, _, _, _, _, _, _, rfl, hy, hm0, ?_⟩, ?_⟩
      · rw [HG'.out, Grp.gcd_step x y hx hy]
      · simp [intOf]
        omega

end Go.Proofs.Ytepbchgjnhnhjaa
