/-
  container/heap's Push and Pop over spf.waiting.
-/
import Derived.Test.YtmdcfiejkbhgpaaDown
namespace Go.Proofs.Ytmdcfiejkbhgpaa
open Go.RowKit

set_option maxRecDepth 100000 in
set_option maxHeartbeats 8000000 in
theorem hpush_any {w : World} {B p X : Nat} {q : Wq} (h : WaitAt w B p q) (hX : OffW w p X) (hh : IsHp q) (x : Int × Int) (hl : q.length < 100000) (hBw : B ≤ w.heap.size) :
    Calls Try.prog 71 #[.iface 86 (.pointer (some ⟨p, 0, none⟩)), .iface 88 (.agg #[.int .i64 x.1, .int .i64 x.2])] w fun e w' => e = .returned (.tuple #[]) ∧ ∃ q', WaitAt w' B p q' ∧ IsHp q' ∧ q'.length = q.length + 1 ∧ (∀ y, y ∈ q' ↔ y ∈ q ∨ y = x) ∧ Below B w w' ∧ OffW w' p X ∧ w'.heap[X]? = w.heap[X]? := by
  have HC := Lib.hid (wpush_any h hX x (by omega))
  have HU := Lib.hid (hh.push x)
  have HL := Lib.hid (show (q ++ [x]).length = q.length + 1 by simp)
  clear h hh hX
  obtain ⟨x1, x2⟩ := x
  go_enter Try.func71, Try.ntmps71
  go_wp2_with (first
    | (go_at_call 119; refine (HC.out).mono ?_; rintro e w2 ⟨rfl, hwt, hb2, hx2, hk2⟩; have HK2 := Lib.hid hk2; have hm := (fun v => meth_len w2 p v); obtain ⟨hBp, g, cap, hne, hc, hf, hbl, hrow, hBg, hg, hp⟩ := hwt.cell; rw [HL.out] at hc; have hm1 := meth_len w2 p _ hc; have HW2 := Lib.hid hwt; have HB2 := Lib.hid hb2; have HBW := Lib.hid (Nat.le_trans hBw hb2.size); have HUP := Lib.hid (up_any hwt hx2 HU.out (by simp) (by simp; omega) (Nat.le_trans hBw hb2.size)); clear hm hwt hb2 hrow hbl hx2 hk2)
    | (go_at_call 69; refine (len_any _ _ _ _).mono ?_; rintro e w' ⟨rfl, hww⟩; obtain rfl := hww.symm; clear hww)
    | (go_at_call 77; refine (HUP.out).mono ?_; rintro e w3 ⟨rfl, q', h1, h2, h3, h4, h5, h6⟩))
  go_end0
  refine ⟨rfl, q', h1, h3, h2.1.trans HL.out, fun y => ?_, HB2.out.trans h4, h5, h6.trans HK2.out⟩
  rw [h2.2 y]
  simp

set_option maxRecDepth 100000 in
set_option maxHeartbeats 8000000 in
theorem hpop_any {w : World} {B p N : Nat} {q : Wq} (h : WaitAt w B p q) (hh : IsHp q) (hN : q.length = N + 1) (hl : N < 100000) (hBw : B ≤ w.heap.size) :
    Calls Try.prog 70 #[.iface 86 (.pointer (some ⟨p, 0, none⟩))] w fun e w' => ∃ (x : Int × Int) (q' : Wq), e = .returned (.iface 88 (.agg #[.int .i64 x.1, .int .i64 x.2])) ∧ WaitAt w' B p q' ∧ IsHp q' ∧ q'.length = N ∧ (∀ y, y ∈ q ↔ y ∈ q' ∨ y = x) ∧ (∀ y ∈ q, x.2 ≤ y.2) ∧ Below B w w' := by
  obtain ⟨r, hr1, hr2, hr3, hr4⟩ := pop_start hh hN
  obtain ⟨hBp, g, cap, hne, hc, hf, hbl, hrow, hBg, hg, hp⟩ := h.cell
  have hmin : ∀ y ∈ q, (q.getD 0 (0, 0)).2 ≤ y.2 := by
    intro y hy
    obtain ⟨k, hk, rfl⟩ := mem_iff_getD.1 hy
    exact hh.least k hk
  have HSW := Lib.hid (swap_any hrow (i := 0) (j := N) (by omega) (by omega))
  rw [hr1] at HSW
  generalize q.getD 0 (0, 0) = x at *
  have hlx : (r ++ [x]).length = q.length := by rw [List.length_append, hr2, hN]; rfl
  have HROW := Lib.hid (fun (w2 : World) (hg2 : w.grownBy w2 (some g)) (hr : RowW w2 B g cap (r ++ [x])) => WaitAt.row hBp hne hbl hlx hg2 hr)
  rw [hN] at hc HSW
  have hm1 := meth_len w p _ hc
  have hm2 := meth_swap w p _ hc
  have HD := Lib.hid (And.intro hr2 hr3)
  have HMEM := Lib.hid (And.intro hr4 hmin)
  have HBG := Lib.hid hBg
  clear hrow hbl hr1 hr2 hr3 hr4 hmin hlx h hh hN
  go_enter Try.func70, Try.ntmps70
  go_wp2_with (first
    | (go_at_call 120; refine (HSW.out).mono ?_; rintro e w2 ⟨rfl, hrow2, hg2⟩; have hw2 := HROW.out w2 hg2 hrow2; have hb2 := below_of_grown hg2 HBG.out hBw; have HB2 := Lib.hid hb2; have HDN := Lib.hid (down_any hw2 HD.out.1 HD.out.2 (by omega) (Nat.le_trans hBw hb2.size)); clear hw2 hb2 hrow2 hg2)
    | (go_at_call 69; refine (len_any _ _ _ _).mono ?_; rintro e w' ⟨rfl, hww⟩; obtain rfl := hww.symm; clear hww)
    | (go_at_call 76; refine (HDN.out).mono ?_; rintro e w3 ⟨b, r', rfl, hw3, hs3, hh3, hb3⟩; have HP := Lib.hid (wpop_any hw3 (by rw [hs3.1, HD.out.1]; omega) (Nat.le_trans (Nat.le_trans hBw HB2.out.size) hb3.size)); have HB3 := Lib.hid hb3; have HS3 := Lib.hid hs3; have HH3 := Lib.hid hh3; clear hw3 hs3 hh3 hb3)
    | (go_at_call 118; refine (HP.out).mono ?_; rintro e w4 ⟨rfl, h4, hb4⟩))
  go_ret
  refine ⟨x, r', rfl, h4, HH3.out, HS3.out.1.trans HD.out.1, fun y => ?_, HMEM.out.2, (HB2.out.trans HB3.out).trans hb4⟩
  rw [HMEM.out.1 y, HS3.out.2 y]
#print axioms hpop_any
end Go.Proofs.Ytmdcfiejkbhgpaa
