/-
  spf.Check computes chkG.
-/
import Derived.Test.YtmdcfiejkbhgpaaIdx
import Derived.Test.YtmdcfiejkbhgpaaMap
import Derived.Carry
namespace Go.Proofs.Ytmdcfiejkbhgpaa
open Go.RowKit Go.Maps

set_option maxRecDepth 100000 in
set_option maxHeartbeats 4000000 in
theorem wrong_any (x : Lk) (w : World) (B : Nat) (n : Int) (hB : B < w.heap.size) (hc : w.cell? ⟨B, 0, none⟩ = some (.int .i64 n)) :
    Calls Try.prog 43 #[.agg #[.int .i64 x.f, .int .i64 x.t, .int .i64 x.c], .pointer (some ⟨B, 0, none⟩)] w fun e w' => e = .returned (.bool (badL n x)) ∧ Below w.heap.size w w' := by
  obtain ⟨f, t, c⟩ := x
  have hne : B ≠ w.heap.size := by omega
  go_enter Try.func43, Try.ntmps43
  go_wp2
  all_goals
    go_ret
    refine ⟨ret_bool ?_, by go_grown⟩
    unfold badL
    rw [Bool.eq_iff_iff]
    simp only [Bool.or_eq_true, decide_eq_true_eq, beq_iff_eq, true_iff]
    first | omega | (refine .inl (.inl (.inr trivial)))

/-- what the map holds behind k links -/
def SeenF (l : List Lk) (k : Nat) (x v : Value) : Prop := ∃ (j : Nat) (y : Lk), j < k ∧ l[j]? = some y ∧ x = .agg #[.int .i64 y.f, .int .i64 y.t] ∧ v = .bool true
theorem seen_zero (l : List Lk) (x v : Value) : SeenF l 0 x v ↔ False := by
  constructor
  · rintro ⟨j, y, h, _⟩
    exact absurd h (Nat.not_lt_zero j)
  · exact False.elim
theorem seen_succ {l : List Lk} {k : Nat} {z : Lk} (hz : l[k]? = some z) (x v : Value) :
    SeenF l (k + 1) x v ↔ (x = .agg #[.int .i64 z.f, .int .i64 z.t] ∧ v = .bool true) ∨ (x ≠ .agg #[.int .i64 z.f, .int .i64 z.t] ∧ SeenF l k x v) := by
  constructor
  · rintro ⟨j, y, hj, hy, rfl, rfl⟩
    by_cases e : (Value.agg #[.int .i64 y.f, .int .i64 y.t] : Value) = .agg #[.int .i64 z.f, .int .i64 z.t]
    · exact .inl ⟨e, rfl⟩
    · refine .inr ⟨e, j, y, ?_, hy, rfl, rfl⟩
      have : j ≠ k := by
        rintro rfl
        rw [hy] at hz
        cases hz
        exact e rfl
      omega
  · rintro (⟨rfl, rfl⟩ | ⟨_, j, y, hj, hy, rfl, rfl⟩)
    · exact ⟨k, z, by omega, hz, rfl, rfl⟩
    · exact ⟨j, y, by omega, hy, rfl, rfl⟩
theorem seen_key {l : List Lk} {k : Nat} {f t : Int} {v : Value} : SeenF l k (.agg #[.int .i64 f, .int .i64 t]) v ↔ (∃ (j : Nat) (y : Lk), j < k ∧ l[j]? = some y ∧ y.f = f ∧ y.t = t) ∧ v = .bool true := by
  constructor
  · rintro ⟨j, y, hj, hy, e, rfl⟩
    simp at e
    exact ⟨⟨j, y, hj, hy, e.1.symm, e.2.symm⟩, rfl⟩
  · rintro ⟨⟨j, y, hj, hy, rfl, rfl⟩, rfl⟩
    exact ⟨j, y, hj, hy, rfl, rfl⟩
theorem zeroB (w : World) : (zeroValue 4).run Try.prog w = .ok (.bool false) w := by kernel_rfl
theorem good_sm {n : Int} {x : Lk} (h : badL n x = false) (hn : n ≤ 64) : Sm x.f ∧ Sm x.t := by
  unfold badL at h
  simp at h
  unfold Sm
  omega
theorem noBad_of {n : Int} {l : List Lk} (h : l.any (badL n) = false) {x : Lk} (hx : x ∈ l) : badL n x = false := by
  rw [List.any_eq_false] at h
  simpa using h x hx
theorem chk_small {n : Int} {l : List Lk} (h : n < 1 ∨ 64 < n) : chkG n l = 1 := by unfold chkG; rw [if_pos h]
theorem chk_bad {n : Int} {l : List Lk} (hn : ¬ (n < 1 ∨ 64 < n)) (h : l.any (badL n) = true) : chkG n l = 1 := by unfold chkG; rw [if_neg hn, if_pos h]

set_option maxRecDepth 100000 in
set_option maxHeartbeats 8000000 in
theorem check_any {w : World} {A : Option Addr} {m c : Nat} {l : List Lk} (hr : Rd lkc 3 w A m l) (n : Int) (hm : m ≤ 1000) :
    Calls Try.prog 13 #[.int .i64 n, .slice A m c] w fun e w' => e = .returned (.int .i64 (chkG n l)) ∧ Below w.heap.size w w' := by
  have hlen := hr.1
  have hwr : ∀ W B, Below w.heap.size w W → B < W.heap.size → w.heap.size ≤ B → W.cell? ⟨B, 0, none⟩ = some (.int .i64 n) → Calls Try.prog 44 #[.slice A m c, .func (.func 43) #[] #[.pointer (some ⟨B, 0, none⟩)]] W
      fun e W' => e = .returned (.bool (l.any (badL n))) ∧ Below w.heap.size w W' := by
    intro W B hW hB hB2 hc
    refine (containsFunc A m c l 43 #[.pointer (some ⟨B, 0, none⟩)] (fun _ V => Below W.heap.size W V) (fun i => badL n (l.getD i ⟨0, 0, 0⟩)) W
      (enters_any Try.func43 (by kernel_rfl) rfl) (by omega) (fun _ V hb => (hr.below hW).below hb) (fun i x V hx hb => ?_) (Below.refl _ _)).mono ?_
    · refine (wrong_any x V B n (Nat.lt_of_lt_of_le hB hb.size) ((hb.cell (p := ⟨B, 0, none⟩) hB).trans hc)).mono fun e w' ⟨he, hb'⟩ => ⟨?_, hb.trans (hb'.mono hb.size)⟩
      rw [he, getD_of hx]
    · rintro e W' ⟨rfl, j, _, hj⟩
      refine ⟨ret_bool ?_, below_step hW hj⟩
      rw [← hlen]
      exact range_any l ⟨0, 0, 0⟩ (badL n)
  have HW := Lib.hid hwr
  have HR := Lib.hid hr
  have HL := Lib.hid hlen
  have hbw : Below w.heap.size w w := Below.refl _ _
  clear hr hwr hlen
  by_cases hn : n < 1 ∨ 64 < n
  · have HC := Lib.hid (chk_small (l := l) hn)
    rcases hn with hn | hn
    · go_enter Try.func13, Try.ntmps13
      go_wp2_with fail
      go_ret
      rw [HC.out]
      exact ⟨rfl, by go_grown⟩
    · have hn' : decide (n < 1) = false := by simp; omega
      go_enter Try.func13, Try.ntmps13
      go_wp2_with fail
      go_ret
      rw [HC.out]
      exact ⟨rfl, by go_grown⟩
  · have HN := Lib.hid hn
    have hn1 : decide (n < 1) = false := by simp; omega
    have hn2 : decide (n > 64) = false := by simp; omega
    have hn3 : n ≤ 64 := by omega
    clear hn
    have HW1 := Lib.hid (HW.out (w.alloc (.cells #[.int .i64 n] 3)) w.heap.size (by go_grown) (by simp) (Nat.le_refl _) (by simp))
    clear HW
    cases hwv : l.any (badL n)
    · have HV := Lib.hid hwv
      rw [hwv] at HW1
      clear hwv
      have hmm := @run_makeMap Try.prog
      go_enter Try.func13, Try.ntmps13
      go_wp2_with (go_at_call 44; refine (HW1.out).mono ?_; rintro e w1 ⟨rfl, hb1⟩)
      have HM0 := Lib.hid ((mapV_made w1 Try.prog 63).as (Nat.le_refl _) (seen_zero l))
      have hb2 : Below w.heap.size w (w1.alloc (.map #[] 0)) := hb1.trans ((below_al1 w1 _).mono hb1.size)
      have hbm : w.heap.size ≤ w1.heap.size := hb1.size
      generalize w1.heap.size = bm at HM0 hbm ⊢
      generalize w1.alloc (.map #[] 0) = w2 at HM0 hb2 ⊢
      go_loopw [25] (fun v wr => ∃ k : Nat, k ≤ m ∧ v = .int .i64 k ∧ NoTwins l k ∧ MapV Try.prog 63 wr bm k (SeenF l k) ∧ Below w.heap.size w wr) (fun v _ => m - (intOf v).toNat)
      case atStart => exact ⟨0, Nat.zero_le _, rfl, fun a h => absurd h (Nat.not_lt_zero a), HM0.out, hb2⟩
      case round =>
        obtain ⟨k, hk, rfl, htw, hmp, hbr⟩ := hrel
        have HTW := Lib.hid htw
        have HMP := Lib.hid hmp
        have HBR := Lib.hid hbr
        clear htw hmp hbr HM0
        have hk0 : (0 : Int) ≤ k := by omega
        by_cases hlt : k < m
        · obtain ⟨⟨xf, xt, xc⟩, b, off, hx, rfl, hcell⟩ := (HR.out.below HBR.out).at_ hlt
          have hk1 : (k : Int) < m := by omega
          have c0 := hcell 0 _ rfl
          have c1 := hcell 1 _ rfl
          have c2 := hcell 2 _ rfl
          rw [Nat.add_zero] at c0
          simp only at c0 c1 c2
          have HX := Lib.hid hx
          have hgrow : Below wr.heap.size wr ((wr.alloc (.cells #[.int .i64 xf, .int .i64 xt, .int .i64 xc] 34)).alloc (.cells #[.int .i64 xf, .int .i64 xt] 63)) := by go_grown
          have HBX := Lib.hid (HBR.out.trans (hgrow.mono HBR.out.size))
          have HMX := Lib.hid (HMP.out.below hgrow)
          have hsm := good_sm (noBad_of HV.out (List.mem_of_getElem? hx)) hn3
          obtain ⟨kl, hkl⟩ := key2 hsm.1 hsm.2
          have HKL := Lib.hid hkl
          clear hkl hsm hx hcell hgrow
          by_cases hd : ∃ (j : Nat) (y : Lk), j < k ∧ l[j]? = some y ∧ y.f = xf ∧ y.t = xt
          · have HLK := Lib.hid (show ∀ v, (SeenF l k (.agg #[.int .i64 xf, .int .i64 xt]) v ∨ (v = .bool false ∧ ∀ u, ¬ SeenF l k (.agg #[.int .i64 xf, .int .i64 xt]) u)) → v = .bool true from by
              rintro v (h | ⟨_, h⟩)
              · exact (seen_key.1 h).2
              · exact absurd (seen_key.2 ⟨hd, rfl⟩) (h _))
            have HC := Lib.hid (show chkG n l = 32 from by
              obtain ⟨j, y, hj, hy, hf, ht⟩ := hd
              exact dup_at HX.out hy hj ⟨hf, ht⟩ HN.out HV.out)
            clear hd
            go_wp2_with (first | (at_lookup; refine wpList_lookV _ rfl _ _ _ rfl HMX.out keyed2 Try.underlying62 (zeroB _) rfl _ rfl HKL.out ?_; intro v hv; obtain rfl := HLK.out v hv) | fail)
            go_ret
            exact ⟨ret_int HC.out.symm, HBX.out⟩
          · have HLK := Lib.hid (show ∀ v, (SeenF l k (.agg #[.int .i64 xf, .int .i64 xt]) v ∨ (v = .bool false ∧ ∀ u, ¬ SeenF l k (.agg #[.int .i64 xf, .int .i64 xt]) u)) → v = .bool false from by
              rintro v (h | ⟨h, _⟩)
              · exact absurd (seen_key.1 h).1 hd
              · exact h)
            have HT := Lib.hid (show NoTwins l (k + 1) from noTwins_succ HTW.out (by
              intro j x y hj hx hy hs
              rw [HX.out] at hx
              cases hx
              exact hd ⟨j, y, hj, hy, hs.1, hs.2⟩))
            clear hd
            go_wp2_with (first | (at_lookup; refine wpList_lookV _ rfl _ _ _ rfl HMX.out keyed2 Try.underlying62 (zeroB _) rfl _ rfl HKL.out ?_; intro v hv; obtain rfl := HLK.out v hv) | (at_mapUpdate; refine wpList_updV _ rfl _ _ _ _ rfl HMX.out keyed2 Try.underlying62 rfl _ _ rfl rfl HKL.out ?_; intro w3 hm3 hg3) | fail)
            have HM3 := Lib.hid (hm3.as (Nat.le_refl _) (seen_succ HX.out))
            have HB3 := Lib.hid (HBX.out.grown hg3 HBX.out.size (fun i hi => by cases hi; exact hbm))
            clear hm3 hg3
            go_roundw
            case rel => exact ⟨k + 1, by omega, by go_num, HT.out, HM3.out, HB3.out⟩
            case measure => simp [intOf]; omega
        · obtain rfl : k = m := by omega
          have HC := Lib.hid (noTwins_all (show NoTwins l l.length by rw [HL.out]; exact HTW.out) HN.out HV.out)
          clear HTW hk hlt hk0
          go_wp2_with fail
          go_ret
          exact ⟨ret_int HC.out.symm, HBR.out⟩
    · have HV := Lib.hid (chk_bad HN.out hwv)
      rw [hwv] at HW1
      clear hwv
      go_enter Try.func13, Try.ntmps13
      go_wp2_with (go_at_call 44; refine (HW1.out).mono ?_; rintro e w1 ⟨rfl, hb1⟩)
      go_ret
      exact ⟨ret_int HV.out.symm, hb1⟩
end Go.Proofs.Ytmdcfiejkbhgpaa
