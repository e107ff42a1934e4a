/-
  The reference's Check computes Grp.check; both Totals compute Grp.total; both Shares compute Grp.share.
-/
import Derived.Test.YtepbchgjnhnhjaaCheck
import Derived.Deep.QuietTactic
import Derived.BigQuiet
namespace Go.Proofs.Ytepbchgjnhnhjaa
open Go.RowKit

theorem getD_of {l : List (Int × Int)} {k : Nat} {x : Int × Int} (h : l[k]? = some x) : l.getD k (0, 0) = x := by
  rw [List.getD_eq_getElem?_getD, h]; rfl

theorem check_32 {l : List (Int × Int)} (h1 : ¬ l.length < 1) (h2 : ¬ 16 < l.length) (h3 : l.any Grp.wrong = false) (h4 : Grp.twice l = true) : Grp.check l = 32 := by
  rw [Grp.check, if_neg (by rintro (h | h | h) <;> first | omega | (rw [h3] at h; cases h)), if_pos h4]
theorem check_0 {l : List (Int × Int)} (h1 : ¬ l.length < 1) (h2 : ¬ 16 < l.length) (h3 : l.any Grp.wrong = false) (h4 : Grp.twice l = false) : Grp.check l = 0 := by
  rw [Grp.check, if_neg (by rintro (h | h | h) <;> first | omega | (rw [h3] at h; cases h)), if_neg (by rw [h4]; simp)]

set_option maxHeartbeats 2000000 in
theorem refCheck_any (A : Option Addr) (n c : Nat) (l : List (Int × Int)) (w : World) (hl : Ways w A n l) :
    Calls Try.prog 9 #[.slice A n c] w fun e w' => e = .returned (.int .i64 (Grp.check l)) ∧ Below w.heap.size w w' := by
  have HN := Lib.hid hl.1
  have HL := Lib.hid hl
  clear hl
  by_cases h1 : (n : Int) < 1
  · go_enter Try.func9, Try.ntmps9
    go_wp2
    go_ret
    refine ⟨ret_int ?_, by go_grown⟩
    have := HN.out
    rw [Grp.check, if_pos (by omega)]
  by_cases h2 : (16 : Int) < (n : Int)
  · go_enter Try.func9, Try.ntmps9
    go_wp2
    go_ret
    refine ⟨ret_int ?_, by go_grown⟩
    have := HN.out
    rw [Grp.check, if_pos (by omega)]
  go_enter Try.func9, Try.ntmps9
  go_wp2
  go_loop [3] (fun v => ∃ k : Nat, k ≤ n ∧ v = .int .i64 k ∧ ∀ j x, j < k → l[j]? = some x → Grp.wrong x = false) (fun v => n - (intOf v).toNat)
  case atStart => exact ⟨0, Nat.zero_le _, rfl, fun j x hj => absurd hj (by omega)⟩
  case round =>
    obtain ⟨k, hk, rfl, hp⟩ := hrel
    have HP := Lib.hid hp
    clear hp
    by_cases hlt : k < n
    · obtain ⟨x, b, off, hx, hA, hc0, hc1⟩ := HL.out.at_ hlt
      subst hA
      have HX := Lib.hid hx
      clear hx
      go_wp2
      case roundEnd =>
        refine ⟨⟨k + 1, by omega, by go_num, fun j y hj hy => ?_⟩, by simp [intOf]; omega⟩
        by_cases hjk : j = k
        · subst hjk
          rw [HX.out] at hy
          injection hy with hy
          subst hy
          unfold Grp.wrong
          rw [Bool.eq_false_iff]
          simp only [ne_eq, Bool.or_eq_true, decide_eq_true_eq]
          omega
        · exact HP.out j y (by omega) hy
      all_goals
        go_ret
        refine ⟨ret_int ?_, by go_grown⟩
        have hwx : Grp.wrong x = true := by
          unfold Grp.wrong
          simp only [Bool.or_eq_true, decide_eq_true_eq]
          omega
        rw [Grp.check, if_pos (.inr (.inr (List.any_eq_true.2 ⟨x, List.mem_of_getElem? HX.out, hwx⟩)))]
    · have hkn : n = k := by omega
      subst hkn
      have HV : Hid (l.any Grp.wrong = false) := by
        refine List.any_eq_false.2 fun x hx => ?_
        obtain ⟨i, hi, rfl⟩ := List.getElem_of_mem hx
        have := HN.out
        rw [HP.out i l[i] (by omega) (List.getElem?_eq_getElem hi)]
        simp
      go_wp2
      go_loopw [4] (fun v W => ∃ k : Nat, k ≤ n ∧ v = .int .i64 k ∧ Below w.heap.size w W ∧ ∀ j, j < k → Grp.dupAt l j = false) (fun v _ => n - (intOf v).toNat)
      case atStart => exact ⟨0, Nat.zero_le _, rfl, Below.refl _ _, fun j hj => absurd hj (by omega)⟩
      case round =>
        obtain ⟨k, hk, rfl, hbk, hp⟩ := hrel
        have HP := Lib.hid hp
        clear hp
        by_cases hlt : k < n
        · go_wp2
          obtain ⟨wo, rfl⟩ : ∃ wo : World, wo = wr := ⟨_, rfl⟩
          go_loopw [5] (fun v W => ∃ j : Nat, j ≤ k ∧ v = .int .i64 j ∧ Below w.heap.size w W ∧ ∀ i, i < j → ((l.getD i (0, 0)).1 == (l.getD k (0, 0)).1) = false) (fun v _ => k - (intOf v).toNat)
          case atStart => exact ⟨0, Nat.zero_le _, rfl, hbk, fun j hj => absurd hj (by omega)⟩
          case round =>
            obtain ⟨j, hj, rfl, hbj, hq⟩ := hrel
            have HQ := Lib.hid hq
            clear hq
            by_cases hjk : j < k
            · obtain ⟨x, b, off, hx, hA, hc0, hc1⟩ := (HL.out.below hbj).at_ hlt
              subst hA
              obtain ⟨y, b', off', hy, hA', hd0, hd1⟩ := (HL.out.below hbj).at_ (show j < n by omega)
              obtain ⟨rfl, rfl⟩ : b = b' ∧ off = off' := by simpa using hA'
              clear hA'
              have HX := Lib.hid (getD_of hx)
              have HY := Lib.hid (getD_of hy)
              have hyy' := Lib.hid hy
              clear hx hy hc1 hd1
              have hj0 : (0 : Int) ≤ (j : Int) := by omega
              have hjn : (j : Int) < (n : Int) := by omega
              have hk0 : (0 : Int) ≤ (k : Int) := by omega
              have hkn : (k : Int) < (n : Int) := by omega
              cases hxy : x.1 == y.1
              · go_wp2
                go_quiet (fail)
                go_wp2
                go_roundw
                case rel =>
                  refine ⟨j + 1, by omega, by go_num, ?_, fun i hi => ?_⟩
                  · exact below_drewN hbj _
                  · by_cases hij : i = j
                    · subst hij
                      rw [HX.out, HY.out, Bool.eq_false_iff]
                      intro he
                      rw [Bool.eq_false_iff] at hxy
                      exact hxy (by simpa using (by simpa using he : y.1 = x.1).symm)
                    · exact HQ.out i (by omega)
                case measure => simp [intOf]; omega
              · go_wp2
                go_quiet (fail)
                go_wp2
                go_ret
                refine ⟨ret_int ?_, below_drewN hbj _⟩
                have hd : Grp.dupAt l k = true := by
                  refine List.any_eq_true.2 ⟨y, ?_, ?_⟩
                  · have h1 : (l.take k)[j]? = some y := by
                      rw [List.getElem?_take, if_pos hjk]
                      exact hyy'.out
                    exact List.mem_of_getElem? h1
                  · rw [HX.out]
                    simpa using (by simpa using hxy : x.1 = y.1).symm
                have e1 : Grp.twice l = true := List.any_eq_true.2 ⟨k, List.mem_range.2 (by have := HN.out; omega), hd⟩
                rw [check_32 (by have := HN.out; omega) (by have := HN.out; omega) HV.out e1]
            · have hjk' : j = k := by omega
              subst hjk'
              go_wp2
              go_roundw
              case rel =>
                refine ⟨j + 1, by omega, by go_num, hbj, fun i hi => ?_⟩
                by_cases hij : i = j
                · rw [hij]
                  refine List.any_eq_false.2 fun x hx => ?_
                  obtain ⟨i, hi, rfl⟩ := List.getElem_of_mem hx
                  rw [List.length_take] at hi
                  have h1 := HQ.out i (by omega)
                  rw [List.getD_eq_getElem?_getD, List.getElem?_eq_getElem (show i < l.length by omega)] at h1
                  rw [List.getElem_take]
                  simp only [Option.getD_some] at h1
                  rw [h1]
                  simp
                · exact HP.out i (by omega)
              case measure => simp [intOf]; omega
        · go_wp2
          go_ret
          refine ⟨ret_int ?_, hbk⟩
          have e1 : Grp.twice l = false := by
            refine List.any_eq_false.2 fun j hj => ?_
            rw [HP.out j (by have := List.mem_range.1 hj; have := HN.out; omega)]
            simp
          rw [check_0 (by have := HN.out; omega) (by have := HN.out; omega) HV.out e1]

end Go.Proofs.Ytepbchgjnhnhjaa
