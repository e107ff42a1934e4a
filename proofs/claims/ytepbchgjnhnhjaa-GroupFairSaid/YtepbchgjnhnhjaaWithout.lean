/-
  group.Without and the reference's Without compute Grp.without; Same compares two rows of ways; group.common is the greatest common divisor.
-/
import Derived.Test.YtepbchgjnhnhjaaDel
namespace Go.Proofs.Ytepbchgjnhnhjaa
open Go.RowKit

theorem hopOut_any (x : Int × Int) (w : World) (B : Nat) (hop : Int) (hB : B < w.heap.size) (hc : w.cell? ⟨B, 0, none⟩ = some (.int .i64 hop)) :
    Calls Try.prog 29 (#[.agg #[.int .i64 x.1, .int .i64 x.2]] ++ #[.pointer (some ⟨B, 0, none⟩)]) w fun e w' => e = .returned (.bool (x.1 == hop)) ∧ Below w.heap.size w w' := by
  obtain ⟨h, k⟩ := x
  have hne : B ≠ w.heap.size := by omega
  show Calls Try.prog 29 #[.agg #[.int .i64 h, .int .i64 k], .pointer (some ⟨B, 0, none⟩)] w _
  go_enter Try.func29, Try.ntmps29
  go_wp2
  go_ret
  exact ⟨rfl, by go_grown⟩

theorem deleteFunc_nil (g : Nat) (cap : Array Value) (w : World) (eg : ∀ args w, (callFunc g args).run Try.prog w = .ok (.enter g args) w) :
    Calls Try.prog 27 #[.slice none 0 0, .func (.func g) #[] cap] w fun e W' => e = .returned (.slice none 0 0) ∧ Below w.heap.size w W' := by
  have hidx : Calls Try.prog 24 #[.slice none 0 0, .func (.func g) #[] cap] w
      fun e W' => e = .returned (.int .i64 (-1)) ∧ Below w.heap.size w W' := by
    refine (indexFunc none 0 0 [] g cap (fun _ V => Below w.heap.size w V) (fun _ => false) w eg (by omega) (fun i V hb => ⟨rfl, fun i x hx => by simp at hx⟩) (fun i y V hy hb => by simp at hy) (Below.refl _ _)).mono ?_
    rintro e W' ⟨rfl, j, _, hj⟩
    exact ⟨ret_int (firstIdx_none fun i hi => rfl), hj⟩
  have HI := Lib.hid hidx
  clear hidx
  go_enter Try.func27, Try.ntmps27
  go_wp2_with (go_at_call 24; refine (HI.out).mono ?_; rintro e w1 ⟨rfl, hb1⟩)
  go_ret
  exact ⟨rfl, hb1⟩

/-- the call returns a slice of ways that reads as l, and turns nothing that was there -/
def GivesWays (w : World) (l : List (Int × Int)) (e : Ending) (w' : World) : Prop :=
  ∃ A c, e = .returned (.slice A l.length c) ∧ l.length ≤ c ∧ Ways w' A l.length l ∧ Below w.heap.size w w'

theorem givesWays_of {w w' : World} {l : List (Int × Int)} {base n : Nat} {v : Value} (h : w'.ownsRow base 37 2 v n (flat l)) (hb : Below w.heap.size w w') : GivesWays w l (.returned v) w' := by
  have hn : n = l.length := by have := h.1; rw [flat_length] at this; omega
  obtain ⟨A, c, hv, hc, hw⟩ := Ways.of_own h
  subst hn
  exact ⟨A, c, by rw [hv], hc, hw, hb⟩

set_option maxHeartbeats 1000000 in
theorem without_any (A : Option Addr) (n c : Nat) (l : List (Int × Int)) (hop : Int) (w : World) (hl : Ways w A n l) (hn : n ≤ 1000000) :
    Calls Try.prog 17 #[.slice A n c, .int .i64 hop] w (GivesWays w (Grp.without l hop)) := by
  have hcl : Calls Try.prog 28 #[.slice A n c] (w.alloc (.cells #[.int .i64 hop] 3)) fun e w' => ∃ v, e = .returned v ∧ w'.ownsRow (w.heap.size + 1) 37 2 v n (flat l) ∧ Below (w.heap.size + 1) (w.alloc (.cells #[.int .i64 hop] 3)) w' := by
    have := clone_any A n c l (w.alloc (.cells #[.int .i64 hop] 3)) (hl.below (by go_grown)) hn
    simpa using this
  have hdel : ∀ v W, W.ownsRow (w.heap.size + 1) 37 2 v n (flat l) → Below (w.heap.size + 1) (w.alloc (.cells #[.int .i64 hop] 3)) W →
      Calls Try.prog 27 #[v, .func (.func 29) #[] #[.pointer (some ⟨w.heap.size, 0, none⟩)]] W (GivesWays w (Grp.without l hop)) := by
    intro v W hown hb
    have hbw : Below w.heap.size w W := ((Below.refl _ w).alloc (Nat.le_refl _) _).trans (hb.mono (by simp))
    have hcell : W.cell? ⟨w.heap.size, 0, none⟩ = some (.int .i64 hop) := (hb.cell (p := ⟨w.heap.size, 0, none⟩) (by simp)).trans (by simp)
    have hlt : w.heap.size < W.heap.size := by have := hb.size; simp at this; omega
    rcases hown.2 with ⟨rfl, rfl⟩ | ⟨g, cap, cur, rfl, hg, hh, hnc, hcm, hcs, htk⟩
    · refine (deleteFunc_nil _ _ W (enters_any Try.func29 (by kernel_rfl) rfl)).mono fun e w' ⟨he, hb'⟩ => ?_
      have hl0 : l = [] := by have := hown.1; rw [flat_length] at this; exact List.eq_nil_of_length_eq_zero (by omega)
      subst hl0
      exact ⟨none, 0, he, Nat.le_refl _, ⟨rfl, fun i x hx => by simp [Grp.without] at hx⟩, hbw.trans (hb'.mono hbw.size)⟩
    · refine (deleteFunc g n cap (w.heap.size + 1) l 29 #[.pointer (some ⟨w.heap.size, 0, none⟩)]
        (fun V => w.heap.size < V.heap.size ∧ V.cell? ⟨w.heap.size, 0, none⟩ = some (.int .i64 hop)) (fun x => x.1 == hop) W
        (enters_any Try.func29 (by kernel_rfl) rfl) hn hown (fun V V' hV hgr => ⟨Nat.lt_of_lt_of_le hV.1 hgr.size, ?_⟩) (fun x V hV => hopOut_any x V _ hop hV.1 hV.2) ⟨hlt, hcell⟩).mono ?_
      · exact hgr.cell hV.2 (by simp; omega)
      · rintro e W' ⟨m, rfl, hown', hgr⟩
        exact givesWays_of hown' (hbw.trans ⟨hgr.os, hgr.tape, hgr.output, hgr.size, fun k hk => hgr.block k (by omega) (by simp; omega)⟩)
  have HC := Lib.hid hcl; have HD := Lib.hid hdel
  clear hcl hdel hl
  go_enter Try.func17, Try.ntmps17
  go_wp2_with first
    | (go_at_call 28; refine (HC.out).mono ?_; rintro e w1 ⟨v, rfl, hown, hb1⟩; have HOWN := Lib.hid hown; clear hown)
    | (go_at_call 27; refine (HD.out _ _ HOWN.out hb1).mono ?_; rintro e w2 ⟨A2, c2, rfl, hres⟩; have HRES := Lib.hid hres; clear hres)
  go_ret
  exact ⟨A2, c2, rfl, HRES.out⟩

set_option maxHeartbeats 1000000 in
theorem refWithout_any (A : Option Addr) (n c : Nat) (l : List (Int × Int)) (hop : Int) (w : World) (hl : Ways w A n l) (hn : n ≤ 1000000) :
    Calls Try.prog 18 #[.slice A n c, .int .i64 hop] w (GivesWays w (Grp.without l hop)) := by
  obtain ⟨i0, hi, hz0, hz1, hz2⟩ := info_parts Try.info_way
  have HN := Lib.hid hl.1
  have HL := Lib.hid hl
  have HI := Lib.hid hi; have HZ0 := Lib.hid hz0; have HZ1 := Lib.hid hz1; have HZ2 := Lib.hid hz2
  clear hl hi hz0 hz1 hz2
  go_enter Try.func18, Try.ntmps18
  go_wp2
  go_loopw [5, 6] (fun v i W => ∃ k : Nat, k ≤ n ∧ i = .int .i64 k ∧ W.ownsRow w.heap.size 37 2 v ((l.take k).filter fun x => !(x.1 == hop)).length (flat ((l.take k).filter fun x => !(x.1 == hop))) ∧ Below w.heap.size w W) (fun _ i _ => n - (intOf i).toNat)
  case atStart => exact ⟨0, Nat.zero_le _, rfl, World.ownsRow_nil _ _ _ _, Below.refl _ _⟩
  case round =>
    obtain ⟨k, hk, rfl, hown, hbk⟩ := hrel
    have HOWN := Lib.hid hown
    clear hown
    by_cases hlt : k < n
    · obtain ⟨x, b, off, hx, hA, hc0, hc1⟩ := (HL.out.below hbk).at_ hlt
      subst hA
      have HX := Lib.hid hx
      clear hx
      have hlen := List.length_filter_le (fun x : Int × Int => !(x.1 == hop)) (l.take k)
      rw [List.length_take] at hlen
      cases hxh : x.1 == hop
      · have hne : (x.1 != hop) = true := by simp [bne, hxh]
        have HF := Lib.hid (filter_take_yes (fun x => !(x.1 == hop)) HX.out (by rw [hxh]; rfl))
        clear hxh
        generalize hm : (l.take k).filter (fun x => !(x.1 == hop)) = m at HOWN HF hlen
        clear hm
        have hz := hbk.size
        go_wp2_with (at_builtin; (refine wpList_append_own _ rfl _ _ 22 rfl w.heap.size 37 i0 (.agg #[.int .i64 0, .int .i64 0]) 2 16 Try.underlying22 HI.out HZ0.out HZ1.out HZ2.out rfl (by decide) u5 m.length (flat m) rfl (HOWN.out.alloc _) ⟨wr.heap.size, 0, none⟩ 1 1 (flat [x]) rfl rfl (new_way _ _ _) (flat_one _) (by simp [maxLen]; omega) (by omega) (by simp; omega) ?_); intro v' w1 hown' hgrow _)
        go_roundw
        case rel =>
          refine ⟨k + 1, by omega, by go_num, ?_, ?_⟩
          · rw [HF.out, flat_append, List.length_append]; exact hown'
          · exact (hbk.alloc hbk.size _).grown hgrow (by have := hbk.size; simp; omega) (fun g hg => (HOWN.out.lt g hg).1)
        case measure => simp [intOf]; omega
      · have hne : (x.1 != hop) = false := by simp [bne, hxh]
        have HF := Lib.hid (filter_take_no (fun x => !(x.1 == hop)) HX.out (by rw [hxh]; rfl))
        clear hxh
        go_wp2
        go_roundw
        case rel =>
          refine ⟨k + 1, by omega, by go_num, ?_, hbk⟩
          rw [HF.out]; exact HOWN.out
        case measure => simp [intOf]; omega
    · have hkn : n = k := by omega
      subst hkn
      go_wp2
      go_ret
      have hown := HOWN.out
      rw [List.take_of_length_le (by have := HN.out; omega)] at hown
      exact givesWays_of hown hbk

end Go.Proofs.Ytepbchgjnhnhjaa
