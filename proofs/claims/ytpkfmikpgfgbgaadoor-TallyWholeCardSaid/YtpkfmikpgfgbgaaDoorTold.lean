/-
  told: a tally, and the reference's of the same numbers; small, plain.
-/
import Derived.Test.YtpkfmikpgfgbgaaDoorShowR
namespace Go.Proofs.YtpkfmikpgfgbgaaDoor
open Go.RowKit

theorem what_q {w : World} {b : Nat} {Z : Nat → Int} (h : TlAt w b 52 Z) (i x : Int) (e : atZ Z 0 4 i = x) :
    Calls Tryd.prog 14 #[.pointer (some ⟨b, 0, none⟩), .int .i64 i] w fun e w' => e = .returned (.int .i64 x) ∧ w = w' := by rw [← e]; exact what_any h i
theorem why_q {w : World} {b : Nat} {Z : Nat → Int} (h : TlAt w b 52 Z) (i x : Int) (e : atZ Z 4 13 i = x) :
    Calls Tryd.prog 15 #[.pointer (some ⟨b, 0, none⟩), .int .i64 i] w fun e w' => e = .returned (.int .i64 x) ∧ w = w' := by rw [← e]; exact why_any h i
theorem out_q {w : World} {b : Nat} {Z : Nat → Int} (h : TlAt w b 52 Z) (i x y : Int) (e1 : atZ Z 18 64 i = x) (e2 : atZ Z 82 64 i = y) :
    Calls Tryd.prog 16 #[.pointer (some ⟨b, 0, none⟩), .int .i64 i] w fun e w' => e = .returned (.tuple #[.int .i64 x, .int .i64 y]) ∧ ∃ n, w' = w.drewN n := by rw [← e1, ← e2]; exact out_any h i
theorem atZ_in (Z : Nat → Int) (o n j : Nat) (h : j < n) : atZ Z o n (j : Int) = Z (o + j) := by
  unfold atZ inRow; rw [if_pos (decide_eq_true (by omega))]; simp
theorem atZ_out (Z : Nat → Int) (o n : Nat) (i : Int) (h : i < 0 ∨ (n : Int) ≤ i) : atZ Z o n i = 0 := by
  unfold atZ inRow; rw [if_neg (by rw [decide_eq_true_eq]; omega)]
theorem grown_drewN (w : World) (n : Nat) : Below w.heap.size w (w.drewN n) := below_drewN (Below.refl _ _) n

set_option maxRecDepth 100000 in
set_option maxHeartbeats 8000000 in
theorem told_any {w : World} {b : Nat} {Z : Nat → Int} (h : TlAt w b 52 Z) (hb : Bd 2199023255552 Z) (ht : Tab w) (hn : Names w) :
    Calls Tryd.prog 11 #[.pointer (some ⟨b, 0, none⟩), .agg (cellsZ Z)] w fun e w' => e = .returned (.bool true) ∧ Below w.heap.size w w' := by
  have HW := Lib.hid (TlAt.new w 31 Z)
  have HB := Lib.hid (show Below w.heap.size w (w.alloc (.cells (cellsZ Z) 31)) by go_grown)
  have HT := Lib.hid h
  have HZ := Lib.hid hb
  have HTAB := Lib.hid ht
  have HN := Lib.hid hn
  clear h hb ht hn
  go_enter Tryd.func11, Tryd.ntmps11
  go_upto_region 1 with fail
  have hlt := HW.out.lt
  generalize World.alloc w _ = w1 at HW HB hlt ⊢
  have HK := Lib.hid (fun w' (h : Below w1.heap.size w1 w') => HW.out.below h)
  have HKT := Lib.hid (fun w' (h : Below w1.heap.size w1 w') => (HT.out.below HB.out).below h)
  clear HW
  go_wp2_with fail
  go_loopw [5, 6, 7, 8, 9, 10, 11] (fun u _ _ _ _ _ _ wr => ∃ k : Nat, k ≤ 66 ∧ u = .int .i64 ((k : Int) - 1) ∧ Below w1.heap.size w1 wr) (fun u _ _ _ _ _ _ _ => (65 - intOf u).toNat)
  case atStart => exact ⟨0, Nat.zero_le _, rfl, Below.refl _ _⟩
  case round =>
    obtain ⟨k, hk, rfl, hbr⟩ := hrel
    have HBR := Lib.hid hbr
    clear hbr
    by_cases hlt' : k < 66
    · by_cases h0 : k = 0
      · subst h0
        rw [show (((0 : Nat) : Int) - 1) = -1 from rfl]
        go_wp2_with fail
        refine (out_q (HKT.out _ HBR.out) (-1) 0 0 (atZ_out _ _ _ _ (by omega)) (atZ_out _ _ _ _ (by omega))).mono ?_
        rintro e w2 ⟨rfl, nd, rfl⟩
        have HB2 := Lib.hid (below_drewN HBR.out nd)
        generalize wr.drewN nd = w2 at HB2 ⊢
        go_wp2_with fail
        refine (what_q (HKT.out _ HB2.out) (-1) 0 (atZ_out _ _ _ _ (by omega))).mono ?_
        rintro e w3 ⟨rfl, rfl⟩
        go_wp2_with fail
        refine (why_q (HKT.out _ HB2.out) (-1) 0 (atZ_out _ _ _ _ (by omega))).mono ?_
        rintro e w3 ⟨rfl, rfl⟩
        go_wp2
        go_roundw
        case rel => exact ⟨1, by omega, rfl, HB2.out⟩
        case measure => simp [intOf]
      · obtain ⟨j, rfl⟩ : ∃ j, k = j + 1 := ⟨k - 1, by omega⟩
        rw [show (((j + 1 : Nat) : Int) - 1) = (j : Int) by omega]
        have hj0 : (0 : Int) ≤ j := by omega
        have hj65 : (j : Int) < 65 := by omega
        have c0 := fun (h : j < 146) => (HK.out _ HBR.out).cell h
        by_cases h64 : j < 64
        · have hj64 : (j : Int) < 64 := by omega
          have o1 := atZ_in Z 18 64 j h64
          have o2 := atZ_in Z 82 64 j h64
          have O1 := Lib.hid o1
          have O2 := Lib.hid o2
          have HC1 := Lib.hid (fun w' (h : Below w1.heap.size w1 w') => (HK.out _ h).cell (show 18 + j < 146 by omega))
          have HC2 := Lib.hid (fun w' (h : Below w1.heap.size w1 w') => (HK.out _ h).cell (show 82 + j < 146 by omega))
          have HC3 := Lib.hid (fun w' (h : Below w1.heap.size w1 w') => (HK.out _ h).cell (show 4 + j < 146 by omega))
          have HC4 := Lib.hid (fun w' (h : Below w1.heap.size w1 w') => (HK.out _ h).cell (show j < 146 by omega))
          clear o1 o2 c0
          have hcase : (j < 4 ∧ (j : Int) < 13) ∨ (¬ j < 4 ∧ j < 13) ∨ ¬ j < 13 := by omega
          rcases hcase with ⟨h4, h13⟩ | ⟨h4, h13⟩ | h13
          · have g4 : decide ((j : Int) < 4) = true := decide_eq_true (by omega)
            have g13 : decide ((j : Int) < 13) = true := decide_eq_true (by omega)
            have HW0 := Lib.hid (atZ_in Z 0 4 j h4)
            have HW1 := Lib.hid (atZ_in Z 4 13 j (by omega))
            go_wp2_with fail
            refine (out_q (HKT.out _ HBR.out) (j : Int) (Z (18 + j)) (Z (82 + j)) O1.out O2.out).mono ?_
            rintro e w2 ⟨rfl, nd, rfl⟩
            have HB2 := Lib.hid (below_drewN HBR.out nd)
            generalize wr.drewN nd = w2 at HB2 ⊢
            have c1 := HC1.out _ HB2.out
            have c2 := HC2.out _ HB2.out
            have c3 := HC3.out _ HB2.out
            have c4 := HC4.out _ HB2.out
            go_wp2_with fail
            refine (what_q (HKT.out _ HB2.out) (j : Int) (Z j) (by have := HW0.out; rwa [Nat.zero_add] at this)).mono ?_
            rintro e w3 ⟨rfl, rfl⟩
            go_wp2_with fail
            refine (why_q (HKT.out _ HB2.out) (j : Int) (Z (4 + j)) HW1.out).mono ?_
            rintro e w3 ⟨rfl, rfl⟩
            go_wp2
            go_roundw
            case rel => exact ⟨j + 1 + 1, by omega, by simp, HB2.out⟩
            case measure => simp [intOf]; omega
          · have g4 : decide ((j : Int) < 4) = false := decide_eq_false (by omega)
            have g13 : decide ((j : Int) < 13) = true := decide_eq_true (by omega)
            have HW1 := Lib.hid (atZ_in Z 4 13 j h13)
            go_wp2_with fail
            refine (out_q (HKT.out _ HBR.out) (j : Int) (Z (18 + j)) (Z (82 + j)) O1.out O2.out).mono ?_
            rintro e w2 ⟨rfl, nd, rfl⟩
            have HB2 := Lib.hid (below_drewN HBR.out nd)
            generalize wr.drewN nd = w2 at HB2 ⊢
            have c1 := HC1.out _ HB2.out
            have c2 := HC2.out _ HB2.out
            have c3 := HC3.out _ HB2.out
            have hw4 : (4 : Int) ≤ j := by omega
            have h13' : (j : Int) < 13 := by omega
            go_wp2_with fail
            refine (what_q (HKT.out _ HB2.out) (j : Int) 0 (atZ_out _ _ _ _ (.inr hw4))).mono ?_
            rintro e w3 ⟨rfl, rfl⟩
            go_wp2_with fail
            refine (why_q (HKT.out _ HB2.out) (j : Int) (Z (4 + j)) HW1.out).mono ?_
            rintro e w3 ⟨rfl, rfl⟩
            go_wp2
            go_roundw
            case rel => exact ⟨j + 1 + 1, by omega, by simp, HB2.out⟩
            case measure => simp [intOf]; omega
          · have g4 : decide ((j : Int) < 4) = false := decide_eq_false (by omega)
            have g13 : decide ((j : Int) < 13) = false := decide_eq_false (by omega)
            go_wp2_with fail
            refine (out_q (HKT.out _ HBR.out) (j : Int) (Z (18 + j)) (Z (82 + j)) O1.out O2.out).mono ?_
            rintro e w2 ⟨rfl, nd, rfl⟩
            have HB2 := Lib.hid (below_drewN HBR.out nd)
            generalize wr.drewN nd = w2 at HB2 ⊢
            have c1 := HC1.out _ HB2.out
            have c2 := HC2.out _ HB2.out
            have hw13 : (13 : Int) ≤ j := by omega
            have hw4 : (4 : Int) ≤ j := by omega
            go_wp2_with fail
            refine (what_q (HKT.out _ HB2.out) (j : Int) 0 (atZ_out _ _ _ _ (.inr hw4))).mono ?_
            rintro e w3 ⟨rfl, rfl⟩
            go_wp2_with fail
            refine (why_q (HKT.out _ HB2.out) (j : Int) 0 (atZ_out _ _ _ _ (.inr hw13))).mono ?_
            rintro e w3 ⟨rfl, rfl⟩
            go_wp2
            go_roundw
            case rel => exact ⟨j + 1 + 1, by omega, by simp, HB2.out⟩
            case measure => simp [intOf]; omega
        · obtain rfl : j = 64 := by omega
          clear c0
          rw [show (((64 : Nat) : Int)) = 64 from rfl]
          go_wp2_with fail
          refine (out_q (HKT.out _ HBR.out) 64 0 0 (atZ_out _ _ _ _ (by omega)) (atZ_out _ _ _ _ (by omega))).mono ?_
          rintro e w2 ⟨rfl, nd, rfl⟩
          have HB2 := Lib.hid (below_drewN HBR.out nd)
          generalize wr.drewN nd = w2 at HB2 ⊢
          go_wp2_with fail
          refine (what_q (HKT.out _ HB2.out) 64 0 (atZ_out _ _ _ _ (by omega))).mono ?_
          rintro e w3 ⟨rfl, rfl⟩
          go_wp2_with fail
          refine (why_q (HKT.out _ HB2.out) 64 0 (atZ_out _ _ _ _ (by omega))).mono ?_
          rintro e w3 ⟨rfl, rfl⟩
          go_wp2
          go_roundw
          case rel => exact ⟨66, by omega, rfl, HB2.out⟩
          case measure => simp [intOf]
    · obtain rfl : k = 66 := by omega
      rw [show (((66 : Nat) : Int) - 1) = 65 from rfl]
      clear hlt' hk
      go_upto_region 18 with fail
      have hch1 : Below w1.heap.size w1 wr.drew := HBR.out.drew
      have HC := Lib.hid (fun w' (h : Below w1.heap.size w1 w') => And.intro h (And.intro ((HK.out _ h).cell (show 17 < 146 by decide)) (HK.out _ h).ldT))
      have HTB := Lib.hid (fun w' (h : Below w1.heap.size w1 w') => And.intro (HTAB.out.below (below_step HB.out h)) (HN.out.below (below_step HB.out h)))
      have HF := Lib.hid (fun w' (h : Below w1.heap.size w1 w') => below_step HB.out h)
      have e1 : (Z 17 == Z 17) = true := by simp
      go_region_held3 (fun w' => Below w1.heap.size w1 w' ∧ w'.cell? ⟨w.heap.size, 17, none⟩ = some (.int .i64 (Z 17)) ∧ (ldS 31 ⟨w.heap.size, 0, none⟩).run Tryd.prog w' = .ok (.agg (cellsZ Z)) w')
        (first | assumption | exact HC.out _ (by assumption))
        (first | (go_at_call 18; (with_reducible refine (in_any (HKT.out _ (And.left (by assumption)))).mono ?_); rintro e wA ⟨rfl, rfl⟩; have hchA := And.left (by assumption)) | (go_at_call 17; (with_reducible refine (show_any (HKT.out _ (And.left (by assumption))) HZ.out (HTB.out _ (And.left (by assumption))).1 (HTB.out _ (And.left (by assumption))).2).mono ?_); rintro e wA ⟨rfl, hbA⟩; have hchA := below_step (And.left (by assumption)) hbA) | (go_at_call 20; (with_reducible refine (rshow_any HZ.out _).mono ?_); rintro e wA ⟨rfl, hbA⟩; have hchA := below_step (And.left (by assumption)) hbA))
      all_goals
        go_wp2
        go_ret
        exact ⟨rfl, HF.out _ hchA⟩

end Go.Proofs.YtpkfmikpgfgbgaaDoor
