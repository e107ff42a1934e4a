/-
  container/heap's down over spf.waiting. (Printed by gendown.py.)
-/
import Derived.Test.YtmdcfiejkbhgpaaPop
namespace Go.Proofs.Ytmdcfiejkbhgpaa
open Go.RowKit

set_option linter.unusedSimpArgs false in
set_option maxRecDepth 100000 in
set_option maxHeartbeats 8000000 in
theorem down_any {w : World} {B p N : Nat} {r : Wq} {x : Int × Int} (h : WaitAt w B p (r ++ [x])) (hN : r.length = N) (hd : DnInv r 0) (hl : N ≤ 100000) (hBw : B ≤ w.heap.size) :
    Calls Try.prog 76 #[.iface 86 (.pointer (some ⟨p, 0, none⟩)), .int .i64 0, .int .i64 N] w fun e w' => ∃ b r', e = .returned (.bool b) ∧ WaitAt w' B p (r' ++ [x]) ∧ SameM r r' ∧ IsHp r' ∧ Below B w w' := by
  have HH := Lib.hid h
  have HD := Lib.hid hd
  have HN := Lib.hid hN
  clear h hd hN
  go_enter Try.func76, Try.ntmps76
  go_wp2_with fail
  go_loopw [7] (fun v wr => ∃ (k : Nat) (r' : Wq), v = .int .i64 k ∧ k ≤ N ∧ WaitAt wr B p (r' ++ [x]) ∧ SameM r r' ∧ DnInv r' k ∧ Below B w wr) (fun v _ => N - (intOf v).toNat)
  case atStart => exact ⟨0, r, rfl, Nat.zero_le _, HH.out, SameM.refl _, HD.out, Below.refl _ _⟩
  case round =>
    obtain ⟨k, r', rfl, hk, hwt, hsm, hdn, hbr⟩ := hrel
    obtain ⟨hBp, g, cap, hne, hc, hf, hbl, hrow, hBg, hg, hp⟩ := hwt.cell
    have HW := Lib.hid hwt
    have HS := Lib.hid hsm
    have HDN := Lib.hid hdn
    have HB := Lib.hid hbr
    have HBW := Lib.hid (Nat.le_trans hBw hbr.size)
    have HLR := Lib.hid (hsm.1.trans HN.out)
    have HLX := Lib.hid (show (r' ++ [x]).length = N + 1 by rw [List.length_append, HLR.out]; rfl)
    have HBL := Lib.hid hbl
    rw [HLX.out] at hc
    clear hwt hsm hdn hbr hbl
    have d0 : decide (2 * (k : Int) + 1 < 0) = false := decide_eq_false (by omega)
    by_cases h1 : 2 * k + 1 < N
    · have d1 : decide (2 * (k : Int) + 1 ≥ (N : Int)) = false := decide_eq_false (by omega)
      have HR := Lib.hid hrow
      have HLS := Lib.hid (show ∀ W, (∃ m, W = wr.drewN m) → ∀ (a b : Nat) (ia ib : Int), (a : Int) = ia → (b : Int) = ib → a < N → b < N → Calls Try.prog 117 #[.slice (some ⟨g, 0, none⟩) (N + 1) cap, .int .i64 ia, .int .i64 ib] W fun e w' => e = .returned (.bool (decide (cst r' a < cst r' b))) ∧ ∃ m, w' = wr.drewN m from by
        rintro W ⟨m, rfl⟩ a b _ _ rfl rfl ha hb
        rw [← HLR.out] at ha hb
        rw [← HLX.out]
        refine (less_any (own_below hrow (below_dN m)) (i := a) (j := b) (by simp; omega) (by simp; omega)).mono ?_
        rintro e w' ⟨rfl, m2, rfl⟩
        rw [cst_app ha, cst_app hb]
        exact ⟨rfl, m + m2, by simp [World.drewN, Nat.add_assoc]⟩)
      have HSWA := Lib.hid (show ∀ W, (∃ m, W = wr.drewN m) → ∀ (a b : Nat) (ia ib : Int), (a : Int) = ia → (b : Int) = ib → a < N → b < N → Calls Try.prog 120 #[.slice (some ⟨g, 0, none⟩) (N + 1) cap, .int .i64 ia, .int .i64 ib] W fun e w' => e = .returned (.tuple #[]) ∧ RowW w' B g cap (swapQ r' a b ++ [x]) ∧ wr.grownBy w' (some g) from by
        rintro W ⟨m, rfl⟩ a b _ _ rfl rfl ha hb
        rw [← HLR.out] at ha hb
        rw [← HLX.out, ← swapQ_app ha hb]
        refine (swap_any (own_below hrow (below_dN m)) (i := a) (j := b) (by simp; omega) (by simp; omega)).mono ?_
        rintro e w' ⟨rfl, h3, h4⟩
        exact ⟨rfl, h3, grown_trans (grown_of_below (below_dN m) _) h4⟩)
      have HML := Lib.hid (show ∀ W, (∃ m, W = wr.drewN m) → _ from fun W ⟨m, e⟩ => meth_less W p _ (e ▸ (show (wr.drewN m).cell? ⟨p, 0, none⟩ = _ from hc)))
      have HMS := Lib.hid (show ∀ W, (∃ m, W = wr.drewN m) → _ from fun W ⟨m, e⟩ => meth_swap W p _ (e ▸ (show (wr.drewN m).cell? ⟨p, 0, none⟩ = _ from hc)))
      have HW0 := Lib.hid (show ∃ m, wr = wr.drewN m from ⟨0, rfl⟩)
      have hm1 := HML.out wr HW0.out
      clear hrow
      by_cases h2 : 2 * k + 2 < N
      · have d2 : decide (2 * (k : Int) + 1 + 1 < (N : Int)) = true := decide_eq_true (by omega)
        by_cases hu : cst r' (2 * k + 2) < cst r' (2 * k + 1)
        · have HCH := Lib.hid (child_right (q := r') (i := k) (by rw [HLR.out]; omega) hu)
          have HU := Lib.hid (decide_eq_true hu)
          clear hu
          by_cases hlt : cst r' (2 * k + 2) < cst r' k
          · have HST := Lib.hid (HDN.out.step HCH.out hlt)
            have HSM := Lib.hid (swapQ_same r' (i := k) (j := 2 * k + 2) (by rw [HLR.out]; omega) (by rw [HLR.out]; omega))
            have HSL := Lib.hid (show (swapQ r' k (2 * k + 2) ++ [x]).length = (r' ++ [x]).length by rw [List.length_append, List.length_append, swapQ_len])
            have HV := Lib.hid (decide_eq_true hlt)
            clear hlt
            go_wp2_with (first | (go_at_call 117; refine (HLS.out wr HW0.out (2 * k + 2) (2 * k + 1) _ _ (by omega) (by omega) (by omega) (by omega)).mono ?_; rw [HU.out]; rintro e w2 ⟨rfl, hw2⟩; have hm2 := HML.out w2 hw2; have HW2 := Lib.hid hw2; clear hw2 hm1))
            go_wp2_with (first | (go_at_call 117; refine (HLS.out w2 HW2.out (2 * k + 2) k _ _ (by omega) rfl (by omega) (by omega)).mono ?_; rw [HV.out]; rintro e w3 ⟨rfl, hw3⟩; have hm3 := HMS.out w3 hw3; have HW3 := Lib.hid hw3; clear hw3) | (go_at_call 120; refine (HSWA.out w3 HW3.out k (2 * k + 2) _ _ rfl (by omega) (by omega) (by omega)).mono ?_; rintro e w4 ⟨rfl, hrow4, hg4⟩))
            refine ⟨⟨2 * k + 2, swapQ r' k (2 * k + 2), by go_num, by omega, WaitAt.row hBp hne HBL.out HSL.out hg4 hrow4, HS.out.trans HSM.out, HST.out, HB.out.trans (below_of_grown hg4 hBg HBW.out)⟩, ?_⟩
            simp [intOf]; omega
          · have HST := Lib.hid (HDN.out.done HCH.out hlt)
            have HV := Lib.hid (decide_eq_false hlt)
            clear hlt
            go_wp2_with (first | (go_at_call 117; refine (HLS.out wr HW0.out (2 * k + 2) (2 * k + 1) _ _ (by omega) (by omega) (by omega) (by omega)).mono ?_; rw [HU.out]; rintro e w2 ⟨rfl, hw2⟩; have hm2 := HML.out w2 hw2; have HW2 := Lib.hid hw2; clear hw2 hm1))
            go_wp2_with (first | (go_at_call 117; refine (HLS.out w2 HW2.out (2 * k + 2) k _ _ (by omega) rfl (by omega) (by omega)).mono ?_; rw [HV.out]; rintro e w3 ⟨rfl, hw3⟩; have HW3 := Lib.hid hw3; clear hw3))
            obtain ⟨m, rfl⟩ := HW3.out
            go_ret
            exact ⟨_, r', rfl, HW.out.below (below_dN m), HS.out, HST.out, HB.out.trans ((below_dN m).mono HBW.out)⟩
        · have HCH := Lib.hid (child_left (q := r') (i := k) (by rw [HLR.out]; omega) hu)
          have HU := Lib.hid (decide_eq_false hu)
          clear hu
          by_cases hlt : cst r' (2 * k + 1) < cst r' k
          · have HST := Lib.hid (HDN.out.step HCH.out hlt)
            have HSM := Lib.hid (swapQ_same r' (i := k) (j := 2 * k + 1) (by rw [HLR.out]; omega) (by rw [HLR.out]; omega))
            have HSL := Lib.hid (show (swapQ r' k (2 * k + 1) ++ [x]).length = (r' ++ [x]).length by rw [List.length_append, List.length_append, swapQ_len])
            have HV := Lib.hid (decide_eq_true hlt)
            clear hlt
            go_wp2_with (first | (go_at_call 117; refine (HLS.out wr HW0.out (2 * k + 2) (2 * k + 1) _ _ (by omega) (by omega) (by omega) (by omega)).mono ?_; rw [HU.out]; rintro e w2 ⟨rfl, hw2⟩; have hm2 := HML.out w2 hw2; have HW2 := Lib.hid hw2; clear hw2 hm1))
            go_wp2_with (first | (go_at_call 117; refine (HLS.out w2 HW2.out (2 * k + 1) k _ _ (by omega) rfl (by omega) (by omega)).mono ?_; rw [HV.out]; rintro e w3 ⟨rfl, hw3⟩; have hm3 := HMS.out w3 hw3; have HW3 := Lib.hid hw3; clear hw3) | (go_at_call 120; refine (HSWA.out w3 HW3.out k (2 * k + 1) _ _ rfl (by omega) (by omega) (by omega)).mono ?_; rintro e w4 ⟨rfl, hrow4, hg4⟩))
            refine ⟨⟨2 * k + 1, swapQ r' k (2 * k + 1), by go_num, by omega, WaitAt.row hBp hne HBL.out HSL.out hg4 hrow4, HS.out.trans HSM.out, HST.out, HB.out.trans (below_of_grown hg4 hBg HBW.out)⟩, ?_⟩
            simp [intOf]; omega
          · have HST := Lib.hid (HDN.out.done HCH.out hlt)
            have HV := Lib.hid (decide_eq_false hlt)
            clear hlt
            go_wp2_with (first | (go_at_call 117; refine (HLS.out wr HW0.out (2 * k + 2) (2 * k + 1) _ _ (by omega) (by omega) (by omega) (by omega)).mono ?_; rw [HU.out]; rintro e w2 ⟨rfl, hw2⟩; have hm2 := HML.out w2 hw2; have HW2 := Lib.hid hw2; clear hw2 hm1))
            go_wp2_with (first | (go_at_call 117; refine (HLS.out w2 HW2.out (2 * k + 1) k _ _ (by omega) rfl (by omega) (by omega)).mono ?_; rw [HV.out]; rintro e w3 ⟨rfl, hw3⟩; have HW3 := Lib.hid hw3; clear hw3))
            obtain ⟨m, rfl⟩ := HW3.out
            go_ret
            exact ⟨_, r', rfl, HW.out.below (below_dN m), HS.out, HST.out, HB.out.trans ((below_dN m).mono HBW.out)⟩
      · have HCH := Lib.hid (child_one (q := r') (i := k) (by rw [HLR.out]; omega) (by rw [HLR.out]; omega))
        have d2 : decide (2 * (k : Int) + 1 + 1 < (N : Int)) = false := decide_eq_false (by omega)
        by_cases hlt : cst r' (2 * k + 1) < cst r' k
        · have HST := Lib.hid (HDN.out.step HCH.out hlt)
          have HSM := Lib.hid (swapQ_same r' (i := k) (j := 2 * k + 1) (by rw [HLR.out]; omega) (by rw [HLR.out]; omega))
          have HSL := Lib.hid (show (swapQ r' k (2 * k + 1) ++ [x]).length = (r' ++ [x]).length by rw [List.length_append, List.length_append, swapQ_len])
          have HV := Lib.hid (decide_eq_true hlt)
          clear hlt
          go_wp2_with (first | (go_at_call 117; refine (HLS.out wr HW0.out (2 * k + 1) k _ _ (by omega) rfl (by omega) (by omega)).mono ?_; rw [HV.out]; rintro e w3 ⟨rfl, hw3⟩; have hm3 := HMS.out w3 hw3; have HW3 := Lib.hid hw3; clear hw3) | (go_at_call 120; refine (HSWA.out w3 HW3.out k (2 * k + 1) _ _ rfl (by omega) (by omega) (by omega)).mono ?_; rintro e w4 ⟨rfl, hrow4, hg4⟩))
          refine ⟨⟨2 * k + 1, swapQ r' k (2 * k + 1), by go_num, by omega, WaitAt.row hBp hne HBL.out HSL.out hg4 hrow4, HS.out.trans HSM.out, HST.out, HB.out.trans (below_of_grown hg4 hBg HBW.out)⟩, ?_⟩
          simp [intOf]; omega
        · have HST := Lib.hid (HDN.out.done HCH.out hlt)
          have HV := Lib.hid (decide_eq_false hlt)
          clear hlt
          go_wp2_with (first | (go_at_call 117; refine (HLS.out wr HW0.out (2 * k + 1) k _ _ (by omega) rfl (by omega) (by omega)).mono ?_; rw [HV.out]; rintro e w3 ⟨rfl, hw3⟩; have HW3 := Lib.hid hw3; clear hw3))
          obtain ⟨m, rfl⟩ := HW3.out
          go_ret
          exact ⟨_, r', rfl, HW.out.below (below_dN m), HS.out, HST.out, HB.out.trans ((below_dN m).mono HBW.out)⟩
    · have d1 : decide (2 * (k : Int) + 1 ≥ (N : Int)) = true := decide_eq_true (by omega)
      go_wp2_with fail
      go_ret
      exact ⟨_, r', rfl, HW.out, HS.out, HDN.out.leaf (by rw [HLR.out]; omega), HB.out⟩
end Go.Proofs.Ytmdcfiejkbhgpaa
