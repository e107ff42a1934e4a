/-
  awake: the document's example, and some more.
-/
import Derived.Test.YtheggpklgeobkaaDoorSame
namespace Go.Proofs.YtheggpklgeobkaaDoor
open Go.RowKit

def aS0 : PS := fun _ => none
def aS1 : PS := addS aS0 3 1500
def aS2 : PS := setS aS1 3 false
theorem a1 : addE aS0 3 1500 = 0 := by decide +kernel
theorem a2 : addE aS1 3 1500 = 32 := by decide +kernel
theorem a2s : addS aS1 3 1500 = aS1 := addS_no (by rw [a2]; decide)
theorem a3 : addE aS1 64 1500 = 50 := by decide +kernel
theorem a3s : addS aS1 64 1500 = aS1 := addS_no (by rw [a3]; decide)
theorem a4 : addE aS1 4 67 = 1 := by decide +kernel
theorem a4s : addS aS1 4 67 = aS1 := addS_no (by rw [a4]; decide)
theorem a5 : hasE aS1 3 = 0 := by decide +kernel
theorem aShow : txt (showP (lst aS1)) = ⟨#[112, 111, 114, 116, 32, 51, 32, 109, 116, 117, 32, 49, 53, 48, 48, 32, 117, 112, 10]⟩ := by
  rw [show showP (lst aS1) = [112, 111, 114, 116, 32, 51, 32, 109, 116, 117, 32, 49, 53, 48, 48, 32, 117, 112, 10] by decide +kernel]; rfl
theorem aUp : upS aS2 3 = false := by decide +kernel
theorem aMtu : mtuS aS2 3 = 1500 := by decide +kernel
theorem aLst : lst aS2 = [⟨3, 1500, false⟩] := by decide +kernel
theorem aRem : hasE aS2 4 = 31 := by decide +kernel
theorem okS0 : OkS aS0 := fun i x hx => by cases hx
@[go_sem ↓, go_sem] theorem eq_port (w : World) : (binOp .eql 42 (.agg #[.int .i64 3, .int .i64 1500, .bool false]) (.agg #[.int .i64 3, .int .i64 1500, .bool false])).run Tryd.prog w = .ok (.bool true) w := by kernel_rfl
theorem guard_port : Tryd.prog.eqGuardType Tryd.prog.depth 42 = false := by kernel_rfl
@[go_sem ↓, go_sem] theorem eqg_port (x y : Operand) (xs ys : Array Value) (w : World) : (eqGuard .eql 42 x y (.agg xs) (.agg ys)).run Tryd.prog w = .ok () w := run_eqGuard_agg w _ _ _ _ _ _ guard_port

/-- interfaces that are S, in block p -/
structure Pin (W w : World) (p : Nat) (S : PS) : Prop where
  ex : ∃ g, abs g = S ∧ PtsAt w p W.heap.size g
  bel : Below W.heap.size W w
theorem Pin.below {W w w' : World} {p : Nat} {S : PS} (h : Pin W w p S) (hb : Below w.heap.size w w') : Pin W w' p S := by
  obtain ⟨⟨g, hg, hp⟩, hbel⟩ := h
  exact ⟨⟨g, hg, hp.below hb⟩, hbel.trans (hb.mono hbel.size)⟩
theorem Pin.add {W w : World} {p : Nat} {S : PS} (h : Pin W w p S) (n mtu : Int) :
    Calls Tryd.prog 10 #[.pointer (some ⟨p, 0, none⟩), .int .i64 n, .int .i64 mtu] w fun e w' => e = .returned (.int .i64 (addE S n mtu)) ∧ Pin W w' p (addS S n mtu) := by
  obtain ⟨⟨g, rfl, hp⟩, hbel⟩ := h
  refine (add_any hp hbel.size n mtu).mono ?_
  rintro e w' ⟨rfl, g', hg', hc⟩
  exact ⟨rfl, ⟨g', hg', hc.to⟩, hbel.trans (hp.kept_below hc.kept hbel.size)⟩
theorem Pin.rem {W w : World} {p : Nat} {S : PS} (h : Pin W w p S) (n : Int) :
    Calls Tryd.prog 11 #[.pointer (some ⟨p, 0, none⟩), .int .i64 n] w fun e w' => e = .returned (.int .i64 (hasE S n)) ∧ Pin W w' p (remS S n) := by
  obtain ⟨⟨g, rfl, hp⟩, hbel⟩ := h
  refine (rem_any hp n).mono ?_
  rintro e w' ⟨rfl, g', hg', hc⟩
  exact ⟨rfl, ⟨g', hg', hc.to⟩, hbel.trans (hp.kept_below hc.kept hbel.size)⟩
theorem Pin.set {W w : World} {p : Nat} {S : PS} (h : Pin W w p S) (n : Int) (u : Bool) :
    Calls Tryd.prog 12 #[.pointer (some ⟨p, 0, none⟩), .int .i64 n, .bool u] w fun e w' => e = .returned (.int .i64 (hasE S n)) ∧ Pin W w' p (setS S n u) := by
  obtain ⟨⟨g, rfl, hp⟩, hbel⟩ := h
  refine (set_any hp n u).mono ?_
  rintro e w' ⟨rfl, g', hg', hc⟩
  exact ⟨rfl, ⟨g', hg', hc.to⟩, hbel.trans (hp.kept_below hc.kept hbel.size)⟩
theorem Pin.up {W w : World} {p : Nat} {S : PS} (h : Pin W w p S) (n : Int) : Calls Tryd.prog 13 #[.pointer (some ⟨p, 0, none⟩), .int .i64 n] w fun e w' => e = .returned (.bool (upS S n)) ∧ w = w' := by
  obtain ⟨⟨g, rfl, hp⟩, hbel⟩ := h
  exact up_any hp n
theorem Pin.mtu {W w : World} {p : Nat} {S : PS} (h : Pin W w p S) (n : Int) : Calls Tryd.prog 14 #[.pointer (some ⟨p, 0, none⟩), .int .i64 n] w fun e w' => e = .returned (.int .i64 (mtuS S n)) ∧ w = w' := by
  obtain ⟨⟨g, rfl, hp⟩, hbel⟩ := h
  exact mtu_any hp n
theorem Pin.show {W w : World} {p : Nat} {S : PS} (h : Pin W w p S) (hok : OkS S) (ht : Tab w) : Calls Tryd.prog 15 #[.pointer (some ⟨p, 0, none⟩)] w fun e w' => e = .returned (.string (txt (showP (lst S)))) ∧ Pin W w' p S := by
  obtain ⟨⟨g, rfl, hp⟩, hbel⟩ := h
  exact (show_any hp hok ht).mono fun e w' ⟨h1, h2⟩ => ⟨h1, Pin.below ⟨⟨g, rfl, hp⟩, hbel⟩ h2⟩
theorem Pin.all {W w : World} {p : Nat} {S : PS} (h : Pin W w p S) : Calls Tryd.prog 16 #[.pointer (some ⟨p, 0, none⟩)] w fun e w' => ∃ A c, e = .returned (.slice A (lst S).length c) ∧ (lst S).length ≤ c ∧ Rd pen 3 w' A (lst S).length (lst S) ∧ Pin W w' p S ∧ Below w.heap.size w w' := by
  obtain ⟨⟨g, rfl, hp⟩, hbel⟩ := h
  refine (all_any hp).mono ?_
  rintro e w' ⟨v, rfl, hown, hb⟩
  obtain ⟨A, c, rfl, hc, hr⟩ := Rd.of_own pen_len (by decide) hown
  exact ⟨A, c, rfl, hc, hr, Pin.below ⟨⟨g, rfl, hp⟩, hbel⟩ hb, hb⟩

set_option maxRecDepth 100000 in
set_option maxHeartbeats 4000000 in
theorem awake_any (W : World) (ht : Tab W) : Calls Tryd.prog 6 #[] W fun e w' => e = .returned (.bool true) ∧ Below W.heap.size W w' := by
  have HT := Lib.hid ht
  clear ht
  go_enter Tryd.func6, Tryd.ntmps6
  go_wp2_with fail
  refine (new_any W).mono ?_
  rintro e w1 ⟨rfl, hp1, hb1⟩
  have H1 : Hid (Pin W w1 W.heap.size aS0) := Lib.hid ⟨⟨_, rfl, hp1⟩, hb1⟩
  clear hp1 hb1
  go_wp2_with fail
  refine (H1.out.add 3 1500).mono ?_
  rw [a1]
  rintro e w2 ⟨rfl, hp2⟩
  have H2 : Hid (Pin W w2 W.heap.size aS1) := Lib.hid hp2
  clear hp2 H1
  go_wp2_with fail
  refine (H2.out.add 3 1500).mono ?_
  rw [a2, a2s]
  rintro e w3 ⟨rfl, hp3⟩
  have H3 := Lib.hid hp3
  clear hp3 H2
  go_wp2_with fail
  refine (H3.out.add 64 1500).mono ?_
  rw [a3, a3s]
  rintro e w4 ⟨rfl, hp4⟩
  have H4 := Lib.hid hp4
  clear hp4 H3
  go_wp2_with fail
  refine (H4.out.add 4 67).mono ?_
  rw [a4, a4s]
  rintro e w5 ⟨rfl, hp5⟩
  have H5 := Lib.hid hp5
  clear hp5 H4
  go_wp2_with fail
  refine (H5.out.show (okS_add okS0 _ _) (HT.out.below H5.out.bel)).mono ?_
  rw [aShow]
  rintro e w6 ⟨rfl, hp6⟩
  have H6 := Lib.hid hp6
  clear hp6 H5
  go_wp2_with fail
  refine (H6.out.set 3 false).mono ?_
  rw [a5]
  rintro e w7 ⟨rfl, hp7⟩
  have H7 : Hid (Pin W w7 W.heap.size aS2) := Lib.hid hp7
  clear hp7 H6
  go_wp2_with fail
  refine (H7.out.all).mono ?_
  rw [aLst]
  rintro e w8 ⟨A, c, rfl, hc, hr, hp8, -⟩
  have H8 := Lib.hid hp8
  obtain ⟨x, b, off, hx, rfl, hcell⟩ := hr.at_ (show 0 < 1 by decide)
  cases hx
  have q0 := hcell 0 _ rfl
  have q1 := hcell 1 _ rfl
  have q2 := hcell 2 _ rfl
  simp only [Nat.zero_mul, Nat.add_zero] at q0 q1 q2
  have hc1 : 1 ≤ c := by simpa using hc
  clear hr hcell hp8 H7 hc
  simp only [List.length_cons, List.length_nil, Nat.zero_add]
  go_wp2_with fail
  refine (H8.out.up 3).mono ?_
  rw [aUp]
  rintro e w9 ⟨rfl, rfl⟩
  go_wp2_with fail
  refine (H8.out.mtu 3).mono ?_
  rw [aMtu]
  rintro e w9 ⟨rfl, rfl⟩
  go_wp2_with fail
  refine (H8.out.rem 4).mono ?_
  rw [aRem]
  rintro e w9 ⟨rfl, hp9⟩
  have H9 := Lib.hid hp9.bel
  clear hp9
  go_wp2_with fail
  go_ret
  exact ⟨rfl, H9.out⟩
end Go.Proofs.YtheggpklgeobkaaDoor
