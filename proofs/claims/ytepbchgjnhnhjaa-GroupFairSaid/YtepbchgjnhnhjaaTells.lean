/-
  The law GroupTells is true, whatever the ways, the number and the hop.
-/
import Derived.Test.YtepbchgjnhnhjaaAwake
namespace Go.Proofs.Ytepbchgjnhnhjaa
open Go.RowKit
namespace Grp

theorem sumW_mono {l : List W} (h : check l = 0) {i j : Nat} (hij : i ≤ j) : sumW (l.take i) ≤ sumW (l.take j) := by
  induction j with
  | zero => have : i = 0 := by omega
            rw [this]; exact Int.le_refl _
  | succ j ih =>
    by_cases hj : i = j + 1
    · rw [hj]; exact Int.le_refl _
    · have h1 := ih (by omega)
      cases hx : l[j]? with
      | none =>
        have : l.length ≤ j := List.getElem?_eq_none_iff.1 hx
        rw [List.take_of_length_le (show l.length ≤ j + 1 by omega)]
        rw [List.take_of_length_le this] at h1
        exact h1
      | some x =>
        rw [take_snoc hx, sumW_snoc]
        have := wrong_of h (List.mem_of_getElem? hx)
        omega

theorem rows_at {l : List W} (h : check l = 0) (k : Nat) (hk : k ≤ l.length) (r : Nat) (hr : r < (rows l k).length) :
    ∃ i, (rows l k)[r]? = some i ∧ i < k ∧ sumW (l.take i) ≤ r ∧ (r : Int) < sumW (l.take (i + 1)) := by
  induction k with
  | zero => simp [rows] at hr
  | succ k ih =>
    have hlen := rows_length h k (by omega)
    have hlen' := rows_length h (k + 1) hk
    by_cases hrk : r < (rows l k).length
    · obtain ⟨i, h1, h2, h3, h4⟩ := ih (by omega) hrk
      exact ⟨i, by rw [rows, List.getElem?_append_left hrk]; exact h1, by omega, h3, h4⟩
    · refine ⟨k, ?_, by omega, by omega, by omega⟩
      have hrl : r < (rows l (k + 1)).length := hr
      rw [rows, List.length_append, List.length_replicate] at hr
      rw [rows, List.getElem?_append_right (by omega), List.getElem?_replicate, if_pos (by omega)]

theorem pick_at {l : List W} (h : check l = 0) (hash : Int) :
    ∃ i, i < l.length ∧ pick l hash = (i : Int) ∧ (rows l l.length)[(hash % sumW l).toNat]? = some i ∧ sumW (l.take i) ≤ hash % sumW l ∧ hash % sumW l < sumW (l.take (i + 1)) := by
  have hT := sumW_all_bd h
  have hlen := rows_length h l.length (Nat.le_refl _)
  rw [List.take_length] at hlen
  have hm0 := Int.emod_nonneg hash (b := sumW l) (by omega)
  have hm1 := Int.emod_lt_of_pos hash (b := sumW l) (by omega)
  obtain ⟨i, h1, h2, h3, h4⟩ := rows_at h l.length (Nat.le_refl _) (hash % sumW l).toNat (by omega)
  have h3' : sumW (l.take i) ≤ hash % sumW l := by omega
  have h4' : hash % sumW l < sumW (l.take (i + 1)) := by omega
  refine ⟨i, h2, ?_, h1, h3', h4'⟩
  rw [pick, if_pos h]
  refine firstIdx_some h2 (by simp only [decide_eq_true_eq]; omega) fun j hj => ?_
  have := sumW_mono h (show j + 1 ≤ i by omega)
  simp only [decide_eq_false_iff_not]
  omega

theorem pick_eq (l : List W) (hash : Int) : refPick l hash = pick l hash := by
  by_cases h : check l = 0
  · obtain ⟨i, _, h1, h2, _, _⟩ := pick_at h hash
    have hlen := rows_length h l.length (Nat.le_refl _)
    rw [List.take_length] at hlen
    rw [h1, refPick, if_pos h, hlen, List.getD_eq_getElem?_getD, h2]
    rfl
  · rw [refPick, if_neg h, pick, if_neg h]
end Grp

/-- what every law is told of its ways -/
structure Given (w : World) (A : Option Addr) (n c : Nat) (l : List (Int × Int)) : Prop where
  ways : Ways w A n l
  cap : n ≤ c
  wf : ∀ x ∈ l, -9223372036854775808 ≤ x.2 ∧ x.2 ≤ 9223372036854775807

set_option maxHeartbeats 4000000 in
theorem tells_any (A : Option Addr) (n c : Nat) (l : List (Int × Int)) (hash hop : Int) (w : World) (hg : Given w A n c l) (hh : 0 ≤ hash ∧ hash ≤ 4294967295) :
    Calls Try.prog 3 #[.slice A n c, .int .u32 hash, .int .i64 hop] w fun e w' => e = .returned (.bool true) ∧ Below w.heap.size w w' := by
  have haw := awake_any w
  have HA := Lib.hid haw
  clear haw
  by_cases h40 : (40 : Int) < (n : Int)
  · clear hg
    go_enter Try.func3, Try.ntmps3
    go_wp2_with (go_at_call 7; refine (HA.out).mono ?_; rintro e w1 ⟨rfl, hb1⟩)
    go_ret
    exact ⟨rfl, hb1⟩
  · have hc := hg.cap
    have e1 : From w 8 #[.slice A n c] (.int .i64 (Grp.check l)) := from_ fun V hV => check_any A n c l V (hg.ways.below hV) (by omega) hc
    have e2 : From w 9 #[.slice A n c] (.int .i64 (Grp.check l)) := from_ fun V hV => refCheck_any A n c l V (hg.ways.below hV)
    have e3 : From w 10 #[.slice A n c] (.int .i64 (Grp.total l)) := from_ fun V hV => total_any A n c l V (hg.ways.below hV) (by omega)
    have e4 : From w 11 #[.slice A n c] (.int .i64 (Grp.total l)) := from_ fun V hV => refTotal_any A n c l V (hg.ways.below hV) (by omega)
    have e5 : From w 12 #[.slice A n c, .int .u32 hash] (.int .i64 (Grp.pick l hash)) := from_ fun V hV => pick_any A n c l hash V (hg.ways.below hV) (by omega) hc hh
    have e6 : From w 13 #[.slice A n c, .int .u32 hash] (.int .i64 (Grp.pick l hash)) := from_ fun V hV => by
      have := refPick_any A n c l hash V (hg.ways.below hV) hh
      rwa [Grp.pick_eq l hash] at this
    have e7 : From w 14 #[.slice A n c, .int .i64 hop] (.int .i64 (Grp.share l hop)) := from_ fun V hV => share_any A n c l hop V (hg.ways.below hV) (by omega)
    have e8 : From w 15 #[.slice A n c, .int .i64 hop] (.int .i64 (Grp.share l hop)) := from_ fun V hV => refShare_any A n c l hop V (hg.ways.below hV) (by omega)
    have e9 : FromWays w 17 #[.slice A n c, .int .i64 hop] (Grp.without l hop) := from_ways fun V hV => without_any A n c l hop V (hg.ways.below hV) (by omega)
    have e10 : FromWays w 18 #[.slice A n c, .int .i64 hop] (Grp.without l hop) := from_ways fun V hV => refWithout_any A n c l hop V (hg.ways.below hV) (by omega)
    have e11 : FromWays w 19 #[.slice A n c] (Grp.norm l) := from_ways fun V hV => norm_any A n c l V (hg.ways.below hV) (by omega) hc
    have e12 : FromWays w 20 #[.slice A n c] (Grp.norm l) := from_ways fun V hV => refNorm_any A n c l V (hg.ways.below hV) (by omega) hg.wf
    have hlw : (Grp.without l hop).length ≤ 40 := by
      have := hg.ways.1
      exact Nat.le_trans (List.length_filter_le _ _) (by omega)
    have hln : (Grp.norm l).length ≤ 40 := by
      have := hg.ways.1
      unfold Grp.norm
      split <;> simp <;> omega
    generalize Grp.check l = v1 at e1 e2
    generalize Grp.total l = v2 at e3 e4
    generalize Grp.pick l hash = v3 at e5 e6
    generalize Grp.share l hop = v4 at e7 e8
    generalize Grp.without l hop = v5 at e9 e10 hlw
    generalize Grp.norm l = v6 at e11 e12 hln
    have E1 := Lib.hid e1; have E2 := Lib.hid e2; have E3 := Lib.hid e3; have E4 := Lib.hid e4; have E5 := Lib.hid e5; have E6 := Lib.hid e6
    have E7 := Lib.hid e7; have E8 := Lib.hid e8; have E9 := Lib.hid e9; have E10 := Lib.hid e10; have E11 := Lib.hid e11; have E12 := Lib.hid e12
    clear e1 e2 e3 e4 e5 e6 e7 e8 e9 e10 e11 e12 hg
    go_enter Try.func3, Try.ntmps3
    go_wp2_with fail
    refine (HA.out).mono ?_
    rintro e w1 ⟨rfl, hb1⟩
    go_wp2_with fail
    refine (E1.out _ hb1).mono ?_
    rintro e w2 ⟨rfl, hb2⟩
    go_wp2_with fail
    refine (E2.out _ hb2).mono ?_
    rintro e w3 ⟨rfl, hb3⟩
    go_wp2_with fail
    refine (E3.out _ hb3).mono ?_
    rintro e w4 ⟨rfl, hb4⟩
    go_wp2_with fail
    refine (E4.out _ hb4).mono ?_
    rintro e w5 ⟨rfl, hb5⟩
    go_wp2_with fail
    refine (E5.out _ hb5).mono ?_
    rintro e w6 ⟨rfl, hb6⟩
    go_wp2_with fail
    refine (E6.out _ hb6).mono ?_
    rintro e w7 ⟨rfl, hb7⟩
    go_wp2_with fail
    refine (E7.out _ hb7).mono ?_
    rintro e w8 ⟨rfl, hb8⟩
    go_wp2_with fail
    refine (E8.out _ hb8).mono ?_
    rintro e w9 ⟨rfl, hb9⟩
    go_wp2_with fail
    refine (E9.out _ hb9).mono ?_
    rintro e w10 ⟨B1, d1, rfl, -, hy1, hb10⟩
    have hb10' := hb9.trans (hb10.mono hb9.size)
    have HY1 := Lib.hid hy1
    clear hy1
    go_wp2_with fail
    refine (E10.out _ hb10').mono ?_
    rintro e w11 ⟨B2, d2, rfl, -, hy2, hb11⟩
    have hb11' := hb10'.trans (hb11.mono hb10'.size)
    have hs1 := refSame_any B1 B2 v5.length v5.length d1 d2 v5 v5 w11 (HY1.out.below hb11) hy2 (by omega)
    rw [decide_eq_true rfl] at hs1
    have HS1 := Lib.hid hs1
    clear hy2 hs1 HY1
    go_wp2_with fail
    refine (HS1.out).mono ?_
    rintro e w12 ⟨rfl, hb12⟩
    have hb12' := hb11'.trans (hb12.mono hb11'.size)
    go_wp2_with fail
    refine (E11.out _ hb12').mono ?_
    rintro e w13 ⟨B3, d3, rfl, -, hy3, hb13⟩
    have hb13' := hb12'.trans (hb13.mono hb12'.size)
    have HY3 := Lib.hid hy3
    clear hy3
    go_wp2_with fail
    refine (E12.out _ hb13').mono ?_
    rintro e w14 ⟨B4, d4, rfl, -, hy4, hb14⟩
    have hb14' := hb13'.trans (hb14.mono hb13'.size)
    have hs2 := refSame_any B3 B4 v6.length v6.length d3 d4 v6 v6 w14 (HY3.out.below hb14) hy4 (by omega)
    rw [decide_eq_true rfl] at hs2
    have HS2 := Lib.hid hs2
    clear hy4 hs2 HY3
    go_wp2_with fail
    refine (HS2.out).mono ?_
    rintro e w15 ⟨rfl, hb15⟩
    have hb15' := hb14'.trans (hb15.mono hb14'.size)
    go_wp2
    go_ret
    exact ⟨rfl, hb15'⟩

end Go.Proofs.Ytepbchgjnhnhjaa
