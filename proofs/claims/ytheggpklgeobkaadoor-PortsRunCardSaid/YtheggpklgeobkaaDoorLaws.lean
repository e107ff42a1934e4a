/-
  The laws PortsRun and PortsAgain, walked.
-/
import Derived.Test.YtheggpklgeobkaaDoorAwake
namespace Go.Proofs.YtheggpklgeobkaaDoor
open Go.RowKit

set_option maxRecDepth 100000 in
set_option maxHeartbeats 4000000 in
theorem portsRun_any {W : World} {A : Option Addr} {n c : Nat} {l : List Sp} (hr : Rd spc 3 W A n l) (ht : Tab W) :
    Calls Tryd.prog 3 #[.slice A n c] W fun e w' => e = .returned (.bool true) ∧ Below W.heap.size W w' := by
  have HR := Lib.hid hr
  have HT := Lib.hid ht
  have HAW := Lib.hid (awake_any W ht)
  clear hr ht
  go_enter Tryd.func3, Tryd.ntmps3
  go_wp2_with fail
  refine (HAW.out).mono ?_
  rintro e w1 ⟨rfl, hb1⟩
  have HB1 := Lib.hid hb1
  clear hb1 HAW
  by_cases h80 : 80 < n
  · have hz : decide ((n : Int) > 80) = true := by simp; omega
    go_wp2_with fail
    go_ret
    exact ⟨rfl, HB1.out⟩
  · have hz : decide ((n : Int) > 80) = false := by simp; omega
    go_wp2_with fail
    refine (new_any w1).mono ?_
    rintro e w2 ⟨rfl, hp2, hb2⟩
    have HP2 := Lib.hid (hp2.mono HB1.out.size)
    have HB2 := Lib.hid (HB1.out.trans (hb2.mono HB1.out.size))
    clear hp2 hb2
    go_wp2_with fail
    refine (run_any (c := c) HP2.out HB2.out HR.out (by omega)).mono ?_
    rintro e w3 ⟨g, v, rfl, hB⟩
    have HB := Lib.hid hB
    clear hB
    go_wp2_with fail
    refine (same_any HB.out (HT.out.below HB.out.bel)).mono ?_
    rintro e w4 ⟨rfl, hb4⟩
    have HB4 := Lib.hid (HB.out.bel.trans (hb4.mono HB.out.bel.size))
    clear hb4
    go_wp2_with fail
    go_ret
    exact ⟨rfl, HB4.out⟩

theorem updP_updP (S : PS) (k : Nat) (x y : Option (Int × Bool)) : updP (updP S k x) k y = updP S k y := by
  funext i; unfold updP; split <;> simp_all
theorem updP_same {S : PS} {k : Nat} {x : Option (Int × Bool)} (h : S k = x) : updP S k x = S := by
  funext i; unfold updP; split
  · rename_i e; rw [e, h]
  · rfl
/-- what comes and goes leaves all as it was -/
theorem come_go {S : PS} {k : Nat} (hk : k < 64) (h : S k = none) : addE S (k : Int) 100 = 0 ∧ hasE (addS S (k : Int) 100) (k : Int) = 0 ∧ remS (addS S (k : Int) 100) (k : Int) = S ∧ upS S (k : Int) = false ∧ mtuS S (k : Int) = 0 := by
  have h0 : addE S (k : Int) 100 = 0 := by simp [addE, inP_nat hk, h]
  have h1 : addS S (k : Int) 100 = updP S k (some (100, true)) := by rw [addS, if_pos h0]; rfl
  have h2 : hasE (updP S k (some (100, true))) (k : Int) = 0 := by simp [hasE, inP_nat hk, updP]
  refine ⟨h0, by rw [h1]; exact h2, ?_, ?_, ?_⟩
  · rw [h1, remS, if_pos h2]
    show updP (updP S k _) k none = S
    rw [updP_updP, updP_same h]
  · simp [upS, h]
  · simp [mtuS, h]
/-- what is set down and up again is as it was -/
theorem down_up {S : PS} {k : Nat} (hk : k < 64) {x : Int × Bool} (h : S k = some x) : hasE S (k : Int) = 0 ∧ upS (setS S (k : Int) false) (k : Int) = false ∧ hasE (setS S (k : Int) false) (k : Int) = 0 ∧ setS (setS S (k : Int) false) (k : Int) (upS S (k : Int)) = S ∧ mtuS S (k : Int) = x.1 := by
  have h0 : hasE S (k : Int) = 0 := by simp [hasE, inP_nat hk, h]
  have h1 : setS S (k : Int) false = updP S k (some (x.1, false)) := by
    rw [setS, if_pos h0]
    show updP S k ((S k).map _) = _
    rw [h]; rfl
  have h2 : hasE (updP S k (some (x.1, false))) (k : Int) = 0 := by simp [hasE, inP_nat hk, updP]
  have h3 : upS S (k : Int) = x.2 := by simp [upS, inP_nat hk, h]
  refine ⟨h0, ?_, by rw [h1]; exact h2, ?_, ?_⟩
  · rw [h1]; simp [upS, updP]
  · rw [h1, h3, setS, if_pos h2]
    show updP (updP S k _) k ((updP S k (some (x.1, false)) k).map _) = S
    rw [updP_updP]
    refine updP_same ?_
    simp [updP, h]
  · simp [mtuS, inP_nat hk, h]
theorem Both.add {W w : World} {p : Nat} {g : PG} {v : Value} (h : Both W w p g v) (n mtu : Int) :
    Calls Tryd.prog 10 #[.pointer (some ⟨p, 0, none⟩), .int .i64 n, .int .i64 mtu] w fun e w' => e = .returned (.int .i64 (addE (abs g) n mtu)) ∧ (Pin W w' p (addS (abs g) n mtu) ∧ RowAt w' W.heap.size v (lst (abs g))) := by
  refine (add_any h.pts h.bel.size n mtu).mono ?_
  rintro e w' ⟨rfl, g', hg', hc⟩
  exact ⟨rfl, ⟨⟨g', hg', hc.to⟩, h.bel.trans (h.pts.kept_below hc.kept h.bel.size)⟩, rowAt_kept h.row h.pts hc.kept⟩
theorem pinRow_rem {W w : World} {p : Nat} {S : PS} {v : Value} {l : List Pe} (h : Pin W w p S) (hv : RowAt w W.heap.size v l) (n : Int) :
    Calls Tryd.prog 11 #[.pointer (some ⟨p, 0, none⟩), .int .i64 n] w fun e w' => e = .returned (.int .i64 (hasE S n)) ∧ (Pin W w' p (remS S n) ∧ RowAt w' W.heap.size v l) := by
  obtain ⟨⟨g, rfl, hp⟩, hbel⟩ := h
  refine (rem_any hp n).mono ?_
  rintro e w' ⟨rfl, g', hg', hc⟩
  exact ⟨rfl, ⟨⟨g', hg', hc.to⟩, hbel.trans (hp.kept_below hc.kept hbel.size)⟩, rowAt_kept hv hp hc.kept⟩
theorem pinRow_set {W w : World} {p : Nat} {S : PS} {v : Value} {l : List Pe} (h : Pin W w p S) (hv : RowAt w W.heap.size v l) (n : Int) (u : Bool) :
    Calls Tryd.prog 12 #[.pointer (some ⟨p, 0, none⟩), .int .i64 n, .bool u] w fun e w' => e = .returned (.int .i64 (hasE S n)) ∧ (Pin W w' p (setS S n u) ∧ RowAt w' W.heap.size v l) := by
  obtain ⟨⟨g, rfl, hp⟩, hbel⟩ := h
  refine (set_any hp n u).mono ?_
  rintro e w' ⟨rfl, g', hg', hc⟩
  exact ⟨rfl, ⟨⟨g', hg', hc.to⟩, hbel.trans (hp.kept_below hc.kept hbel.size)⟩, rowAt_kept hv hp hc.kept⟩
theorem both_back {W w : World} {p : Nat} {S : PS} {v : Value} (h : Pin W w p S) (hok : OkS S) (hv : RowAt w W.heap.size v (lst S)) (ht : Tab w) :
    Calls Tryd.prog 9 #[.pointer (some ⟨p, 0, none⟩), v] w fun e w' => e = .returned (.bool true) ∧ Below W.heap.size W w' := by
  obtain ⟨⟨g, rfl, hp⟩, hbel⟩ := h
  exact (same_any ⟨hp, hv, hok, hbel⟩ ht).mono fun _ _ ⟨h1, h2⟩ => ⟨h1, hbel.trans (h2.mono hbel.size)⟩
theorem allNil_any (w : World) : Calls Tryd.prog 16 #[.pointer none] w fun e w' => ∃ A c, e = .returned (.slice A 0 c) ∧ Below w.heap.size w w' := by
  refine (all_nil w).mono ?_
  rintro e w' ⟨v, rfl, hown, hb⟩
  obtain ⟨A, c, rfl, hc, hr⟩ := Rd.of_own pen_len (by decide) hown
  exact ⟨A, c, rfl, hb⟩

set_option maxRecDepth 100000 in
set_option maxHeartbeats 8000000 in
theorem portsAgain_any {W : World} {A : Option Addr} {n c : Nat} {l : List Sp} (hr : Rd spc 3 W A n l) (a : Int) (ha : 0 ≤ a ∧ a ≤ 255) (ht : Tab W) :
    Calls Tryd.prog 4 #[.slice A n c, .int .u8 a] W fun e w' => e = .returned (.bool true) ∧ Below W.heap.size W w' := by
  have HR := Lib.hid hr
  have HT := Lib.hid ht
  have HAW := Lib.hid (awake_any W ht)
  have HTB := Lib.hid (fun w' (h : Below W.heap.size W w') => ht.below h)
  clear hr ht
  obtain ⟨ha0, ha1⟩ := ha
  go_enter Tryd.func4, Tryd.ntmps4
  go_wp2_with fail
  refine (HAW.out).mono ?_
  rintro e w1 ⟨rfl, hb1⟩
  have HB1 := Lib.hid hb1
  clear hb1 HAW
  by_cases h80 : 80 < n
  · have hz : decide ((n : Int) > 80) = true := by simp; omega
    go_wp2_with fail
    go_ret
    exact ⟨rfl, HB1.out⟩
  · have hz : decide ((n : Int) > 80) = false := by simp; omega
    go_wp2_with fail
    refine (new_any w1).mono ?_
    rintro e w2 ⟨rfl, hp2, hb2⟩
    have HP2 := Lib.hid (hp2.mono HB1.out.size)
    have HB2 := Lib.hid (HB1.out.trans (hb2.mono HB1.out.size))
    clear hp2 hb2
    go_wp2_with fail
    refine (run_any (c := c) HP2.out HB2.out HR.out (by omega)).mono ?_
    rintro e w3 ⟨g, v, rfl, hB⟩
    have HB := Lib.hid hB
    clear hB hz h80
    go_upto_region 11 with fail
    obtain ⟨k, hk, hke⟩ : ∃ k : Nat, k < 64 ∧ a % 64 = (k : Int) := ⟨(a % 64).toNat, by omega, by omega⟩
    rw [hke]
    clear hke
    go_wp2_with fail
    refine (add_nil k 100 _).mono ?_
    rintro e w4 ⟨rfl, rfl⟩
    go_wp2_with fail
    refine (rem_nil k _).mono ?_
    rintro e w4 ⟨rfl, rfl⟩
    go_wp2_with fail
    refine (set_nil k true _).mono ?_
    rintro e w4 ⟨rfl, rfl⟩
    go_wp2_with fail
    refine (up_nil k _).mono ?_
    rintro e w4 ⟨rfl, rfl⟩
    go_wp2_with fail
    refine (mtu_nil k _).mono ?_
    rintro e w4 ⟨rfl, rfl⟩
    go_wp2_with fail
    refine (show_nil _ (HTB.out _ HB.out.bel)).mono ?_
    rintro e w4 ⟨rfl, hb4⟩
    have HB4 := Lib.hid (HB.out.below hb4)
    clear hb4 HB
    rw [← txt_nil]
    go_wp2_with fail
    refine (allNil_any _).mono ?_
    rintro e w5 ⟨A5, c5, rfl, hb5⟩
    have HB5 := Lib.hid (HB4.out.below hb5)
    clear hb5 HB4
    go_wp2_with fail
    refine (up_any HB5.out.pts k).mono ?_
    rintro e w6 ⟨rfl, rfl⟩
    go_wp2_with fail
    refine (mtu_any HB5.out.pts k).mono ?_
    rintro e w6 ⟨rfl, rfl⟩
    cases hS : abs g k with
    | none =>
      obtain ⟨e1, e2, e3, e4, e5⟩ := come_go hk hS
      rw [e4, e5]
      have E1 := Lib.hid e1
      have E2 := Lib.hid e2
      have E3 := Lib.hid e3
      clear e1 e2 e3 e4 e5 hS hk
      go_wp2_with fail
      refine (HB5.out.add k 100).mono ?_
      rw [E1.out]
      rintro e w6 ⟨rfl, hp6, hr6⟩
      have HP6 := Lib.hid hp6
      have HR6 := Lib.hid hr6
      clear hp6 hr6
      go_wp2_with fail
      refine (pinRow_rem HP6.out HR6.out k).mono ?_
      rw [E2.out, E3.out]
      rintro e w7 ⟨rfl, hp7, hr7⟩
      have HS7 := Lib.hid (both_back hp7 HB5.out.ok hr7 (HTB.out _ hp7.bel))
      clear hp7 hr7 HP6 HR6 E1 E2 E3
      go_wp2_with fail
      refine (HS7.out).mono ?_
      rintro e w8 ⟨rfl, hb8⟩
      have HB8 := Lib.hid hb8
      clear hb8
      go_wp2_with fail
      go_ret
      exact ⟨rfl, HB8.out⟩
    | some x =>
      obtain ⟨e1, e2, e3, e4, e5⟩ := down_up hk hS
      rw [e5]
      have hx := HB5.out.ok k x hS
      have hx0 : (x.1 == 0) = false := by simp; omega
      have E1 := Lib.hid e1
      have E2 := Lib.hid e2
      have E3 := Lib.hid e3
      have E4 := Lib.hid e4
      clear e1 e2 e3 e4 e5 hS hk hx
      generalize upS (abs g) (k : Int) = was at *
      go_wp2_with fail
      refine (set_any HB5.out.pts k false).mono ?_
      rintro e w6 ⟨rfl, g', hg', hch⟩
      rw [E1.out]
      have HP6 : Hid (Pin W w6 w1.heap.size (setS (abs g) k false)) := Lib.hid ⟨⟨g', hg', hch.to⟩, HB5.out.bel.trans (HB5.out.pts.kept_below hch.kept HB5.out.bel.size)⟩
      have HR6 := Lib.hid (rowAt_kept HB5.out.row HB5.out.pts hch.kept)
      clear hg' hch
      go_wp2_with fail
      refine (HP6.out.up k).mono ?_
      rw [E2.out]
      rintro e w7 ⟨rfl, rfl⟩
      go_wp2_with fail
      refine (pinRow_set HP6.out HR6.out k was).mono ?_
      rw [E3.out, E4.out]
      rintro e w7 ⟨rfl, hp7, hr7⟩
      have HS7 := Lib.hid (both_back hp7 HB5.out.ok hr7 (HTB.out _ hp7.bel))
      clear hp7 hr7 HP6 HR6 E1 E2 E3 E4
      go_wp2_with fail
      refine (HS7.out).mono ?_
      rintro e w8 ⟨rfl, hb8⟩
      have HB8 := Lib.hid hb8
      clear hb8
      go_wp2_with fail
      go_ret
      exact ⟨rfl, HB8.out⟩
end Go.Proofs.YtheggpklgeobkaaDoor
