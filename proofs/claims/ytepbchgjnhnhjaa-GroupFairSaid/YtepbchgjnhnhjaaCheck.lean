/-
  group.Check and the reference's Check compute Grp.check.
-/
import Derived.Test.YtepbchgjnhnhjaaIdx
namespace Go.Proofs.Ytepbchgjnhnhjaa
open Go.RowKit

theorem wrong_any (x : Int × Int) (w : World) :
    Calls Try.prog 21 #[.agg #[.int .i64 x.1, .int .i64 x.2]] w fun e w' => e = .returned (.bool (Grp.wrong x)) ∧ Below w.heap.size w w' := by
  obtain ⟨h, k⟩ := x
  go_enter Try.func21, Try.ntmps21
  go_wp2
  all_goals
    go_ret
    refine ⟨ret_bool ?_, by go_grown⟩
    unfold Grp.wrong
    rw [Bool.eq_iff_iff]
    all_goals
      simp only [Bool.or_eq_true, decide_eq_true_eq, true_iff]
      omega

theorem same_any (x : Int × Int) (w : World) (B : Nat) (hop : Int) (hB : B < w.heap.size) (hc : w.cell? ⟨B, 0, none⟩ = some (.int .i64 hop)) :
    Calls Try.prog 23 #[.agg #[.int .i64 x.1, .int .i64 x.2], .pointer (some ⟨B, 0, none⟩)] w fun e w' => e = .returned (.bool (x.1 == hop)) ∧ Below w.heap.size w w' := by
  obtain ⟨h, k⟩ := x
  have hne : B ≠ w.heap.size := by omega
  go_enter Try.func23, Try.ntmps23
  go_wp2
  go_ret
  exact ⟨rfl, by go_grown⟩

set_option maxHeartbeats 1000000 in
theorem check_any (A : Option Addr) (n c : Nat) (l : List (Int × Int)) (w : World) (hl : Ways w A n l) (hn : n ≤ 4611686018427387903) (hnc : n ≤ c) :
    Calls Try.prog 8 #[.slice A n c] w fun e w' => e = .returned (.int .i64 (Grp.check l)) ∧ Below w.heap.size w w' := by
  have hlen := hl.1
  have hwr : ∀ W, Below w.heap.size w W → Calls Try.prog 22 #[.slice A n c, .func (.func 21) #[] #[]] W
      fun e W' => e = .returned (.bool (l.any Grp.wrong)) ∧ Below w.heap.size w W' := by
    intro W hW
    refine (containsFunc A n c l 21 #[] (fun _ W => Below w.heap.size w W) (fun i => Grp.wrong (l.getD i (0, 0))) W
      (enters_any Try.func21 (by kernel_rfl) rfl) hn (fun _ W hb => hl.below hb) (fun i x W hx hb => ?_) hW).mono ?_
    · refine (wrong_any x W).mono fun e w' ⟨he, hb'⟩ => ⟨?_, hb.trans (hb'.mono hb.size)⟩
      rw [he, List.getD_eq_getElem?_getD, hx]; rfl
    · rintro e W' ⟨rfl, j, _, hj⟩
      refine ⟨ret_bool ?_, hj⟩
      rw [Bool.eq_iff_iff]
      simp only [List.any_eq_true, List.mem_range]
      constructor
      · rintro ⟨i, hi, h⟩
        refine ⟨l[i]'(by omega), List.getElem_mem _, ?_⟩
        simpa [List.getD_eq_getElem?_getD, List.getElem?_eq_getElem (show i < l.length by omega)] using h
      · rintro ⟨x, hx, h⟩
        obtain ⟨i, hi, rfl⟩ := List.getElem_of_mem hx
        exact ⟨i, by omega, by simpa [List.getD_eq_getElem?_getD, List.getElem?_eq_getElem hi] using h⟩
  have hdup : ∀ W (k B : Nat) (x : Int × Int), Below w.heap.size w W → k < n → l[k]? = some x → w.heap.size ≤ B → B < W.heap.size → W.cell? ⟨B, 0, none⟩ = some (.int .i64 x.1) →
      Calls Try.prog 22 #[.slice A k c, .func (.func 23) #[] #[.pointer (some ⟨B, 0, none⟩)]] W
      fun e W' => e = .returned (.bool (Grp.dupAt l k)) ∧ Below w.heap.size w W' := by
    intro W k B x hW hk hx hB0 hB hc
    refine (containsFunc A k c (l.take k) 23 #[.pointer (some ⟨B, 0, none⟩)] (fun _ V => Below W.heap.size W V) (fun i => ((l.take k).getD i (0, 0)).1 == x.1) W
      (enters_any Try.func23 (by kernel_rfl) rfl) (by omega) (fun _ V hb => ((hl.take (by omega)).below hW).below hb) (fun i y V hy hb => ?_) (Below.refl _ _)).mono ?_
    · refine (same_any y V B x.1 (by have := hb.size; omega) ((hb.cell (p := ⟨B, 0, none⟩) hB).trans hc)).mono fun e w' ⟨he, hb'⟩ => ⟨?_, hb.trans (hb'.mono hb.size)⟩
      rw [he, List.getD_eq_getElem?_getD, hy]; rfl
    · rintro e W' ⟨rfl, j, _, hj⟩
      refine ⟨ret_bool ?_, hW.trans (hj.mono hW.size)⟩
      have e1 : (l.getD k (0, 0)).1 = x.1 := by rw [List.getD_eq_getElem?_getD, hx]; rfl
      unfold Grp.dupAt
      rw [e1]
      have e2 : (l.take k).length = k := by rw [List.length_take]; omega
      generalize l.take k = m at e2 ⊢
      rw [Bool.eq_iff_iff]
      simp only [List.any_eq_true, List.mem_range]
      constructor
      · rintro ⟨i, hi, h⟩
        refine ⟨m[i]'(by omega), List.getElem_mem _, ?_⟩
        simpa [List.getD_eq_getElem?_getD, List.getElem?_eq_getElem (show i < m.length by omega)] using h
      · rintro ⟨y, hy, h⟩
        obtain ⟨i, hi, rfl⟩ := List.getElem_of_mem hy
        exact ⟨i, by omega, by simpa [List.getD_eq_getElem?_getD, List.getElem?_eq_getElem hi] using h⟩
  have HW := Lib.hid hwr; have HD := Lib.hid hdup
  clear hwr hdup
  have HL := Lib.hid hl
  have HN := Lib.hid hlen
  clear hl hlen
  by_cases h1 : (n : Int) < 1
  · go_enter Try.func8, Try.ntmps8
    go_wp2_with fail
    go_ret
    refine ⟨ret_int ?_, by go_grown⟩
    have := HN.out
    rw [Grp.check, if_pos (by omega)]
  by_cases h2 : (16 : Int) < (n : Int)
  · go_enter Try.func8, Try.ntmps8
    go_wp2_with fail
    go_ret
    refine ⟨ret_int ?_, by go_grown⟩
    have := HN.out
    rw [Grp.check, if_pos (by omega)]
  cases hwv : l.any Grp.wrong
  · have HV := Lib.hid hwv
    rw [hwv] at HW
    clear hwv
    go_enter Try.func8, Try.ntmps8
    go_wp2_with (go_at_call 22; refine (HW.out _ (by go_grown)).mono ?_; rintro e w1 ⟨rfl, hb1⟩)
    have hb0 : Below w.heap.size w w1 := hb1
    go_loopw [21] (fun v W => ∃ k : Nat, k ≤ n ∧ v = .int .i64 k ∧ Below w.heap.size w W ∧ ∀ j, j < k → Grp.dupAt l j = false) (fun v _ => n - (intOf v).toNat)
    case atStart => exact ⟨0, Nat.zero_le _, rfl, hb0, fun j hj => absurd hj (by omega)⟩
    case round =>
      obtain ⟨k, hk, rfl, hbk, hp⟩ := hrel
      have HP := Lib.hid hp
      clear hp
      by_cases hlt : k < n
      · obtain ⟨x, b, off, hx, hA, hc0, hc1⟩ := (HL.out.below hbk).at_ hlt
        subst hA
        have HX := Lib.hid hx
        clear hx
        cases hd : Grp.dupAt l k
        all_goals
          have HK := Lib.hid hd
          have HD' := Lib.hid (HD.out (wr.alloc (.cells #[.int .i64 x.1, .int .i64 x.2] 37)) k wr.heap.size x (hbk.alloc hbk.size _) hlt HX.out hbk.size (by simp) (by simp))
          rw [hd] at HD'
          clear hd
          go_wp2_with (go_at_call 22; refine (HD'.out).mono ?_; rintro e w2 ⟨rfl, hb2⟩)
        · go_roundw
          case rel =>
            refine ⟨k + 1, by omega, by go_num, hb2, fun j hj => ?_⟩
            by_cases hjk : j = k
            · rw [hjk]; exact HK.out
            · exact HP.out j (by omega)
          case measure => simp [intOf]; omega
        · go_ret
          refine ⟨ret_int ?_, hb2⟩
          have e1 : Grp.twice l = true := List.any_eq_true.2 ⟨k, List.mem_range.2 (by have := HN.out; omega), HK.out⟩
          have e2 := HN.out
          have e3 := HV.out
          rw [Grp.check, if_neg (by rintro (h | h | h) <;> first | omega | (rw [e3] at h; cases h)), if_pos e1]
      · have hkn : n = k := by omega
        subst hkn
        go_wp2
        go_ret
        refine ⟨ret_int ?_, hbk⟩
        have e2 := HN.out
        have e1 : Grp.twice l = false := by
          refine List.any_eq_false.2 fun j hj => ?_
          rw [HP.out j (by have := List.mem_range.1 hj; omega)]
          simp
        have e3 := HV.out
        rw [Grp.check, if_neg (by rintro (h | h | h) <;> first | omega | (rw [e3] at h; cases h)), if_neg (by rw [e1]; simp)]
  · have HV := Lib.hid hwv
    rw [hwv] at HW
    clear hwv
    go_enter Try.func8, Try.ntmps8
    go_wp2_with (go_at_call 22; refine (HW.out _ (by go_grown)).mono ?_; rintro e w1 ⟨rfl, hb1⟩)
    go_ret
    refine ⟨ret_int ?_, by go_grown⟩
    rw [Grp.check, if_pos (.inr (.inr HV.out))]

end Go.Proofs.Ytepbchgjnhnhjaa
