/-
  The reference's Show.
-/
import Derived.Test.YtpkfmikpgfgbgaaDoorShowP
namespace Go.Proofs.YtpkfmikpgfgbgaaDoor
open Go.RowKit

set_option maxRecDepth 100000 in
set_option maxHeartbeats 8000000 in
theorem rshow_any {Z : Nat → Int} (hb : Bd 2199023255552 Z) (w : World) :
    Calls Tryd.prog 20 #[.agg (cellsZ Z)] w fun e w' => e = .returned (.string (txt (showT Z))) ∧ Below w.heap.size w w' := by
  have HW := Lib.hid (TlAt.new w 31 Z)
  have HB := Lib.hid (show Below w.heap.size w (w.alloc (.cells (cellsZ Z) 31)) by go_grown)
  have HZ := Lib.hid hb
  have hz := hb 17
  clear hb
  go_enter Tryd.func20, Tryd.ntmps20
  go_upto_region 1 with fail
  have hlt := HW.out.lt
  generalize World.alloc w _ = w1 at HW HB hlt ⊢
  have hc := HW.out.cell (show 17 < 146 by decide)
  have HK := Lib.hid (fun w' (h : Below w1.heap.size w1 w') => HW.out.below h)
  go_wp2_with fail
  refine (rdig_any _ (by omega) (by omega) _).mono ?_
  rintro e w2 ⟨rfl, rfl⟩
  have HEQ : Hid ((⟨#[105, 110, 32]⟩ : ByteArray) ++ txt (Lib.itoa (Z 17)) = txt (whys Z 0)) := Lib.hid (by rw [whys_zero]; unfold headT; rw [← txt_append]; rfl)
  have hn3 := bd_itoa HZ.out 17
  go_upto_region 2 with fail
  rw [HEQ.out]
  clear hc hn3 hz HW
  go_wp2_with fail
  go_loopw [3, 4] (fun s u wr => ∃ k : Nat, k ≤ 13 ∧ u = .int .i64 k ∧ s = .string (txt (whys Z k)) ∧ Below w2.heap.size w2 wr) (fun _ u _ => 13 - (intOf u).toNat)
  case atStart => exact ⟨0, Nat.zero_le _, rfl, rfl, Below.refl _ _⟩
  case round =>
    obtain ⟨k, hk, rfl, rfl, hbr⟩ := hrel
    have HBR := Lib.hid hbr
    have hk0 : (0 : Int) ≤ k := by omega
    have hwl := whys_len HZ.out k
    clear hbr
    by_cases hlt' : k < 13
    · have hkn : (k : Int) < 13 := by omega
      have hz := HZ.out (4 + k)
      have hS := Lib.hid (whys_succ Z k)
      have hc := (HK.out _ HBR.out).cell (show 4 + k < 146 by omega)
      by_cases hp : 0 < Z (4 + k)
      · have hp' : decide (Z (4 + k) > 0) = true := decide_eq_true hp
        have hT : whyT Z k = (([32] ++ nameT k) ++ [61]) ++ Lib.itoa (Z (4 + k)) := if_pos hp
        have HEQ2 : Hid (txt (whys Z k) ++ ((⟨#[32]⟩ : ByteArray) ++ txt (nameT k) ++ ⟨#[61]⟩ ++ txt (Lib.itoa (Z (4 + k)))) = txt (whys Z (k + 1))) := Lib.hid (by rw [whys_succ, hT, ← txt_append (whys Z k), ← txt_append, ← txt_append, ← txt_append]; rfl)
        have hl1 := nameT_len k
        have hl2 := bd_itoa HZ.out (4 + k)
        have n1 : ¬ 9223372036854775807 < 1 + (nameT k).length := by omega
        have n2 : ¬ 9223372036854775807 < 1 + (nameT k).length + 1 := by omega
        have n3 : ¬ 9223372036854775807 < 1 + (nameT k).length + 1 + (Lib.itoa (Z (4 + k))).length := by omega
        have n4 : ¬ 9223372036854775807 < (whys Z k).length + (1 + (nameT k).length + 1 + (Lib.itoa (Z (4 + k))).length) := by omega
        clear hT
        go_upto_region 6 with fail
        have HCELL := Lib.hid (fun w' (h : Below wr.heap.size wr w') => (HK.out _ (below_step HBR.out h)).cell (show 4 + k < 146 by omega))
        have hch1 : Below wr.heap.size wr wr.drew := (Below.refl _ _).drew
        go_region_held3 (fun w' => w'.cell? ⟨w.heap.size, 4 + k, none⟩ = some (.int .i64 (Z (4 + k))) ∧ Below wr.heap.size wr w')
          (first | assumption | exact ⟨by assumption, by assumption⟩)
          (first | (go_at_call 28; (with_reducible refine (rname_any _ k hlt').mono ?_); rintro e wA ⟨rfl, hbA⟩; have hchA := below_step (And.right (by assumption)) hbA; have hcA := HCELL.out _ hchA) | (go_at_call 27; (with_reducible refine (rdig_any _ (by omega) (by omega) _).mono ?_); rintro e wA ⟨rfl, rfl⟩; have hchA := And.right (by assumption)))
        all_goals
          rw [HEQ2.out]
          have HF := Lib.hid (below_step HBR.out hchA)
          go_wp2
          go_roundw
          case rel => exact ⟨k + 1, by omega, by go_num, rfl, HF.out⟩
          case measure => simp [intOf]; omega
      · have hp' : decide (Z (4 + k) > 0) = false := decide_eq_false hp
        have hT : whyT Z k = [] := if_neg hp
        have HTT := Lib.hid hT
        clear hT
        go_wp2
        go_roundw
        case rel => exact ⟨k + 1, by omega, by go_num, by rw [hS.out, HTT.out, List.append_nil], HBR.out⟩
        case measure => simp [intOf]; omega
    · obtain rfl : k = 13 := by omega
      rw [show (((13 : Nat) : Int)) = 13 from rfl]
      have HEQ3 : Hid (txt (whys Z 13) ++ (⟨#[10]⟩ : ByteArray) = txt (outs Z 0)) := Lib.hid (by rw [outs_zero, ← txt_append]; rfl)
      clear hk hk0 hlt'
      go_upto_region 8 with fail
      rw [HEQ3.out]
      clear hwl
      go_wp2_with fail
      obtain ⟨wq, rfl⟩ : ∃ wq : World, wq = wr := ⟨_, rfl⟩
      go_loopw [3, 5] (fun s u wx => ∃ k : Nat, k ≤ 64 ∧ u = .int .i64 k ∧ s = .string (txt (outs Z k)) ∧ Below w2.heap.size w2 wx) (fun _ u _ => 64 - (intOf u).toNat)
      case atStart => exact ⟨0, Nat.zero_le _, rfl, rfl, HBR.out⟩
      case round =>
        obtain ⟨k, hk, rfl, rfl, hbr⟩ := hrel
        have HBX := Lib.hid hbr
        have hk0 : (0 : Int) ≤ k := by omega
        have hwl := outs_len HZ.out k hk
        clear hbr
        by_cases hlt' : k < 64
        · have hkn : (k : Int) < 64 := by omega
          have hz := HZ.out (18 + k)
          have hz2 := HZ.out (82 + k)
          have hS := Lib.hid (outs_succ Z k)
          have hc := (HK.out _ HBX.out).cell (show 18 + k < 146 by omega)
          have hc2 := (HK.out _ HBX.out).cell (show 82 + k < 146 by omega)
          by_cases hp : 0 < Z (18 + k)
          · have hp' : decide (Z (18 + k) > 0) = true := decide_eq_true hp
            have hT : outT Z k = ((((([111, 117, 116, 32] ++ Lib.itoa k) ++ [32]) ++ Lib.itoa (Z (18 + k))) ++ [32]) ++ Lib.itoa (Z (82 + k))) ++ [10] := if_pos hp
            have HEQ4 : Hid (txt (outs Z k) ++ ((⟨#[111, 117, 116, 32]⟩ : ByteArray) ++ txt (Lib.itoa k) ++ ⟨#[32]⟩ ++ txt (Lib.itoa (Z (18 + k))) ++ ⟨#[32]⟩ ++ txt (Lib.itoa (Z (82 + k))) ++ ⟨#[10]⟩) = txt (outs Z (k + 1))) := Lib.hid (by rw [outs_succ, hT, ← txt_append (outs Z k), ← txt_append, ← txt_append, ← txt_append, ← txt_append, ← txt_append, ← txt_append]; rfl)
            have hl0 := itoa_len k (by omega) (by omega)
            have hl1 := bd_itoa HZ.out (18 + k)
            have hl2 := bd_itoa HZ.out (82 + k)
            have n1 : ¬ 9223372036854775807 < 4 + (Lib.itoa (k : Int)).length := by omega
            have n2 : ¬ 9223372036854775807 < 4 + (Lib.itoa (k : Int)).length + 1 := by omega
            have n3 : ¬ 9223372036854775807 < 4 + (Lib.itoa (k : Int)).length + 1 + (Lib.itoa (Z (18 + k))).length := by omega
            have n4 : ¬ 9223372036854775807 < 4 + (Lib.itoa (k : Int)).length + 1 + (Lib.itoa (Z (18 + k))).length + 1 := by omega
            have n5 : ¬ 9223372036854775807 < 4 + (Lib.itoa (k : Int)).length + 1 + (Lib.itoa (Z (18 + k))).length + 1 + (Lib.itoa (Z (82 + k))).length := by omega
            have n6 : ¬ 9223372036854775807 < 4 + (Lib.itoa (k : Int)).length + 1 + (Lib.itoa (Z (18 + k))).length + 1 + (Lib.itoa (Z (82 + k))).length + 1 := by omega
            have n7 : ¬ 9223372036854775807 < (outs Z k).length + (4 + (Lib.itoa (k : Int)).length + 1 + (Lib.itoa (Z (18 + k))).length + 1 + (Lib.itoa (Z (82 + k))).length + 1) := by omega
            clear hT
            go_upto_region 12 with fail
            go_quiet ((go_at_call 27; exact Calls.quiet_of_same (rdig_any _ (by omega) (by omega) _)))
            go_upto_region 10 with fail
            rw [HEQ4.out]
            have HF := Lib.hid (below_drewN HBX.out nq)
            go_wp2
            go_roundw
            case rel => exact ⟨k + 1, by omega, by go_num, rfl, HF.out⟩
            case measure => simp [intOf]; omega
          · have hp' : decide (Z (18 + k) > 0) = false := decide_eq_false hp
            have hT : outT Z k = [] := if_neg hp
            have HTT := Lib.hid hT
            clear hT
            go_wp2
            go_roundw
            case rel => exact ⟨k + 1, by omega, by go_num, by rw [hS.out, HTT.out, List.append_nil], HBX.out⟩
            case measure => simp [intOf]; omega
        · obtain rfl : k = 64 := by omega
          have HF := Lib.hid (HB.out.trans (HBX.out.mono (show w.heap.size ≤ w2.heap.size by omega)))
          go_wp2
          go_ret
          exact ⟨rfl, HF.out⟩

end Go.Proofs.YtpkfmikpgfgbgaaDoor
