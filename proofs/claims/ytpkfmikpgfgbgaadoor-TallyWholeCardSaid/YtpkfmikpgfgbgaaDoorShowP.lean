/-
  The program's Show.
-/
import Derived.Test.YtpkfmikpgfgbgaaDoorName
import Derived.Test.YtpkfmikpgfgbgaaDoorShB
import Derived.Deep.RegionHeld3
namespace Go.Proofs.YtpkfmikpgfgbgaaDoor
open Go.RowKit

/-- the text, part by part -/
def whyT (Z : Nat → Int) (i : Nat) : List UInt8 := if 0 < Z (4 + i) then (([32] ++ nameT i) ++ [61]) ++ Lib.itoa (Z (4 + i)) else []
def outT (Z : Nat → Int) (i : Nat) : List UInt8 := if 0 < Z (18 + i) then ((((([111, 117, 116, 32] ++ Lib.itoa i) ++ [32]) ++ Lib.itoa (Z (18 + i))) ++ [32]) ++ Lib.itoa (Z (82 + i))) ++ [10] else []
def headT (Z : Nat → Int) : List UInt8 := [105, 110, 32] ++ Lib.itoa (Z 17)
def whys (Z : Nat → Int) (k : Nat) : List UInt8 := headT Z ++ (List.range k).flatMap (whyT Z)
def outs (Z : Nat → Int) (k : Nat) : List UInt8 := (whys Z 13 ++ [10]) ++ (List.range k).flatMap (outT Z)
def showT (Z : Nat → Int) : List UInt8 := outs Z 64
theorem whys_zero (Z : Nat → Int) : whys Z 0 = headT Z := by simp [whys]
theorem whys_succ (Z : Nat → Int) (k : Nat) : whys Z (k + 1) = whys Z k ++ whyT Z k := by simp [whys, List.range_succ, List.flatMap_append]
theorem outs_zero (Z : Nat → Int) : outs Z 0 = whys Z 13 ++ [10] := by simp [outs]
theorem outs_succ (Z : Nat → Int) (k : Nat) : outs Z (k + 1) = outs Z k ++ outT Z k := by simp [outs, List.range_succ, List.flatMap_append]
theorem bd_itoa {Z : Nat → Int} (h : Bd 2199023255552 Z) (i : Nat) : (Lib.itoa (Z i)).length ≤ 21 := by
  have := h i; exact itoa_len _ (by omega) (by omega)
theorem whys_len {Z : Nat → Int} (h : Bd 2199023255552 Z) (k : Nat) : (whys Z k).length ≤ 24 + 40 * k := by
  induction k with
  | zero => rw [whys_zero]; have := bd_itoa h 17; simp [headT]; omega
  | succ k ih =>
    rw [whys_succ, List.length_append]
    have h1 : (whyT Z k).length ≤ 40 := by
      unfold whyT
      split
      · have := bd_itoa h (4 + k); have := nameT_len k; simp; omega
      · simp
    omega
theorem outs_len {Z : Nat → Int} (h : Bd 2199023255552 Z) (k : Nat) (hk : k ≤ 64) : (outs Z k).length ≤ 700 + 80 * k := by
  induction k with
  | zero => rw [outs_zero]; have := whys_len h 13; simp; omega
  | succ k ih =>
    rw [outs_succ, List.length_append]
    have h1 : (outT Z k).length ≤ 80 := by
      unfold outT
      split
      · have := bd_itoa h (18 + k); have := bd_itoa h (82 + k); have := itoa_len k (by omega) (by omega); simp; omega
      · simp
    have := ih (by omega)
    omega
/-- the builder holds a text -/
abbrev Txt (B : Nat) (l : List UInt8) (w : World) : Prop := Bld B B (Lib.byteCells l) w
theorem Txt.below {B : Nat} {l : List UInt8} {w w' : World} (h : Txt B l w) (hb : Below w.heap.size w w') : Txt B l w' := by
  have key : ∀ p, Lib.BuilderAt 61 5 B B p (Lib.byteCells l) w → Lib.BuilderAt 61 5 B B p (Lib.byteCells l) w' := by
    rintro p ⟨h1, v, h2, h3, h4⟩
    exact ⟨h1, v, by rw [hb.block _ (Array.getElem?_eq_some_iff.1 h2).1]; exact h2, own_below h3 hb, h4⟩
  rcases h with h | h
  · exact .inl (key _ h)
  · exact .inr (key _ h)
theorem Txt.lt {B : Nat} {l : List UInt8} {w : World} (h : Txt B l w) : B < w.heap.size := by
  rcases h with ⟨_, v, h2, _⟩ | ⟨_, v, h2, _⟩ <;> exact (Array.getElem?_eq_some_iff.1 h2).1
theorem Txt.start (w : World) : Txt w.heap.size [] (w.alloc (.cells #[.pointer none, .slice none 0 0] 61)) :=
  .inl ⟨Nat.le_refl _, .slice none 0 0, heap_alloc_new _ _, World.ownsRow_nil _ _ _ _, by simp [Value.ownBlock]⟩
theorem txt_write {B : Nat} {l : List UInt8} (s : List UInt8) {w : World} (h : Txt B l w) (hlen : l.length + s.length ≤ 100000) (hBw : B ≤ w.heap.size) :
    Calls Tryd.prog 23 #[.pointer (some ⟨B, 0, none⟩), .string (txt s)] w fun e w' => e = .returned (.tuple #[.int .i64 s.length, .nilIface]) ∧ (Txt B (l ++ s) w' ∧ Below B w w') := by
  have := write_calls B B (Lib.byteCells l) (txt s) w h (by rw [Lib.byteCells_length, txt_size]; omega) hBw
  rw [txt_size] at this
  refine this.mono ?_
  rintro e w' ⟨he, h1, h2⟩
  refine ⟨he, ?_, h2⟩
  rw [Lib.strCells_eq, txt_list, ← Lib.byteCells_append] at h1
  exact h1

set_option maxRecDepth 100000 in
set_option maxHeartbeats 8000000 in
theorem show_any {w : World} {b : Nat} {Z : Nat → Int} (h : TlAt w b 52 Z) (hb : Bd 2199023255552 Z) (ht : Tab w) (hn : Names w) :
    Calls Tryd.prog 17 #[.pointer (some ⟨b, 0, none⟩)] w fun e w' => e = .returned (.string (txt (showT Z))) ∧ Below w.heap.size w w' := by
  have HW := Lib.hid (Txt.start w)
  have HB := Lib.hid (show Below w.heap.size w (w.alloc (.cells #[.pointer none, .slice none 0 0] 61)) by go_grown)
  have HT := Lib.hid h
  have HZ := Lib.hid hb
  have HTAB := Lib.hid ht
  have HN := Lib.hid hn
  have hlt := h.lt
  have hbb := h.cell (show 17 < 146 by decide)
  have hz := hb 17
  clear h hb ht hn
  go_enter Tryd.func17, Tryd.ntmps17
  go_wp2_with fail
  have hsz : w.heap.size < (w.alloc (.cells #[.pointer none, .slice none 0 0] 61)).heap.size := by simp
  generalize World.alloc w _ = w1 at HW HB hsz ⊢
  refine (dig_any _ (by omega) (by omega) _ (HTAB.out.below HB.out)).mono ?_
  rintro e w2 ⟨rfl, hb2⟩
  have hE : (⟨#[105, 110, 32]⟩ : ByteArray) ++ txt (Lib.itoa (Z 17)) = txt (headT Z) := by unfold headT; rw [← txt_append]; rfl
  have hn3 : ¬ 9223372036854775807 < (3 : Nat) + (Lib.itoa (Z 17)).length := by have := bd_itoa HZ.out 17; omega
  have HW2 := Lib.hid (HW.out.below hb2)
  have HB2 := Lib.hid (HB.out.trans (hb2.mono (by omega)))
  have hs2 := hb2.size
  clear hb2 HW HB hz hbb
  go_wp2_with fail
  clear hE hn3
  refine (txt_write (headT Z) HW2.out (by have := bd_itoa HZ.out 17; simp [headT]; omega) (by omega)).mono ?_
  rintro e w3 ⟨rfl, ht3, hb3⟩
  have HW3 := Lib.hid ht3
  have HB3 := Lib.hid (HB2.out.trans hb3)
  have hl := (HT.out.below HB3.out).ld13
  have hs3 := hb3.size
  clear ht3 hb3 HW2 HB2
  go_wp2_with fail
  clear hl
  rw [List.nil_append, ← whys_zero] at HW3
  go_loopw [4, 5, 21] (fun _ _ u wr => ∃ k : Nat, k ≤ 13 ∧ u = .int .i64 k ∧ Txt w.heap.size (whys Z k) wr ∧ Below w.heap.size w wr ∧ w.heap.size < wr.heap.size) (fun _ _ u _ => 13 - (intOf u).toNat)
  case atStart => exact ⟨0, Nat.zero_le _, rfl, HW3.out, HB3.out, by omega⟩
  case round =>
    obtain ⟨k, hk, rfl, hw, hb, hsr⟩ := hrel
    have HWR := Lib.hid hw
    have HBR := Lib.hid hb
    have hk0 : (0 : Int) ≤ k := by omega
    clear hw hb HW3 HB3
    by_cases hlt' : k < 13
    · have hkn : (k : Int) < 13 := by omega
      have hz := HZ.out (4 + k)
      have hS := Lib.hid (whys_succ Z k)
      by_cases hp : 0 < Z (4 + k)
      · have hp' : decide (Z (4 + k) > 0) = true := decide_eq_true hp
        have hT : whyT Z k = (([32] ++ nameT k) ++ [61]) ++ Lib.itoa (Z (4 + k)) := if_pos hp
        have HTT := Lib.hid hT
        have HEQ : Hid ((⟨#[32]⟩ : ByteArray) ++ txt (nameT k) ++ ⟨#[61]⟩ ++ txt (Lib.itoa (Z (4 + k))) = txt (whyT Z k)) := Lib.hid (by rw [hT, ← txt_append, ← txt_append, ← txt_append]; rfl)
        have hl1 := nameT_len k
        have hl2 := bd_itoa HZ.out (4 + k)
        clear hT
        go_wp2_with fail
        refine (name_any (HN.out.below HBR.out) k hlt').mono ?_
        rintro e w4 ⟨rfl, rfl⟩
        go_wp2_with fail
        refine (dig_any _ (by omega) (by omega) _ (HTAB.out.below HBR.out)).mono ?_
        rintro e w5 ⟨rfl, hb5⟩
        have HW5 := Lib.hid (HWR.out.below hb5)
        have HB5 := Lib.hid (HBR.out.trans (hb5.mono (by omega)))
        have hs5 := hb5.size
        clear hb5 HWR HBR
        go_wp2_with fail
        rw [HEQ.out]
        refine (txt_write (whyT Z k) HW5.out (by have := whys_len HZ.out k; rw [HTT.out]; simp; omega) (by omega)).mono ?_
        rintro e w6 ⟨rfl, ht6, hb6⟩
        rw [← hS.out] at ht6
        have HW6 := Lib.hid ht6
        have HB6 := Lib.hid (HB5.out.trans hb6)
        have hs6 := hb6.size
        clear ht6 hb6 HW5 HB5
        go_wp2
        go_roundw
        case rel => exact ⟨k + 1, by omega, by go_num, HW6.out, HB6.out, by omega⟩
        case measure => simp [intOf]; omega
      · have hp' : decide (Z (4 + k) > 0) = false := decide_eq_false hp
        have hT : whyT Z k = [] := if_neg hp
        have HTT := Lib.hid hT
        clear hT
        go_wp2
        go_roundw
        case rel => exact ⟨k + 1, by omega, by go_num, by rw [hS.out, HTT.out, List.append_nil]; exact HWR.out, HBR.out, hsr⟩
        case measure => simp [intOf]; omega
    · obtain rfl : k = 13 := by omega
      rw [show (((13 : Nat) : Int)) = 13 from rfl]
      have hw13 := whys_len HZ.out 13
      clear hk hk0 hlt'
      go_wp2_with fail
      rw [show (⟨#[10]⟩ : ByteArray) = txt [10] from rfl]
      refine (txt_write [10] HWR.out (by simp; omega) (by omega)).mono ?_
      rintro e w4 ⟨rfl, ht4, hb4⟩
      rw [← outs_zero] at ht4
      have HW4 := Lib.hid ht4
      have HB4 := Lib.hid (HBR.out.trans hb4)
      have hs4 := hb4.size
      have hl := (HT.out.below HB4.out).ld64
      clear ht4 hb4 HWR HBR
      go_wp2_with fail
      clear hl
      obtain ⟨wq, rfl⟩ : ∃ wq : World, wq = wr := ⟨_, rfl⟩
      go_loopw [6, 7, 41] (fun _ _ u wx => ∃ k : Nat, k ≤ 64 ∧ u = .int .i64 k ∧ Txt w.heap.size (outs Z k) wx ∧ Below w.heap.size w wx ∧ w.heap.size < wx.heap.size) (fun _ _ u _ => 64 - (intOf u).toNat)
      case atStart => exact ⟨0, Nat.zero_le _, rfl, HW4.out, HB4.out, by omega⟩
      case round =>
        obtain ⟨k, hk, rfl, hw, hb, hsr'⟩ := hrel
        have HWR := Lib.hid hw
        have HBR := Lib.hid hb
        have hk0 : (0 : Int) ≤ k := by omega
        clear hw hb HW4 HB4
        by_cases hlt' : k < 64
        · have hkn : (k : Int) < 64 := by omega
          have hz := HZ.out (18 + k)
          have hz2 := HZ.out (82 + k)
          have hS := Lib.hid (outs_succ Z k)
          by_cases hp : 0 < Z (18 + k)
          · have hp' : decide (Z (18 + k) > 0) = true := decide_eq_true hp
            have hT : outT Z k = ((((([111, 117, 116, 32] ++ Lib.itoa k) ++ [32]) ++ Lib.itoa (Z (18 + k))) ++ [32]) ++ Lib.itoa (Z (82 + k))) ++ [10] := if_pos hp
            have HTT := Lib.hid hT
            have HEQ : Hid ((⟨#[111, 117, 116, 32]⟩ : ByteArray) ++ txt (Lib.itoa k) ++ ⟨#[32]⟩ ++ txt (Lib.itoa (Z (18 + k))) ++ ⟨#[32]⟩ ++ txt (Lib.itoa (Z (82 + k))) ++ ⟨#[10]⟩ = txt (outT Z k)) := Lib.hid (by rw [hT, ← txt_append, ← txt_append, ← txt_append, ← txt_append, ← txt_append, ← txt_append]; rfl)
            have hl0 := itoa_len k (by omega) (by omega)
            have hl1 := bd_itoa HZ.out (18 + k)
            have hl2 := bd_itoa HZ.out (82 + k)
            have n1 : ¬ 9223372036854775807 < 4 + (Lib.itoa (k : Int)).length := by omega
            have n2 : ¬ 9223372036854775807 < 4 + (Lib.itoa (k : Int)).length + 1 := by omega
            have n3 : ¬ 9223372036854775807 < 4 + (Lib.itoa (k : Int)).length + 1 + (Lib.itoa (Z (18 + k))).length := by omega
            have n4 : ¬ 9223372036854775807 < 4 + (Lib.itoa (k : Int)).length + 1 + (Lib.itoa (Z (18 + k))).length + 1 := by omega
            have n5 : ¬ 9223372036854775807 < 4 + (Lib.itoa (k : Int)).length + 1 + (Lib.itoa (Z (18 + k))).length + 1 + (Lib.itoa (Z (82 + k))).length := by omega
            have n6 : ¬ 9223372036854775807 < 4 + (Lib.itoa (k : Int)).length + 1 + (Lib.itoa (Z (18 + k))).length + 1 + (Lib.itoa (Z (82 + k))).length + 1 := by omega
            have HL := Lib.hid (show (outs Z k).length + (outT Z k).length ≤ 100000 by have := outs_len HZ.out k (by omega); rw [hT]; simp; omega)
            clear hT
            go_upto_region 16 with fail
            have HCELL := Lib.hid (fun w' (hb : Below w.heap.size w w') => (HT.out.below hb).cell (show 82 + k < 146 by omega))
            have HTB := Lib.hid (fun w' (hb : Below w.heap.size w w') => HTAB.out.below hb)
            have hch : Below wr.heap.size wr wr := Below.refl _ _
            have hch1 : Below wr.heap.size wr wr.drew := hch.drew
            have hc := HCELL.out _ HBR.out
            have HST := Lib.hid (fun w' (hb : Below wr.heap.size wr w') => HBR.out.trans (hb.mono (show w.heap.size ≤ wr.heap.size by omega)))
            clear hch
            go_region_held3 (fun w' => w'.cell? ⟨b, 82 + k, none⟩ = some (.int .i64 (Z (82 + k))))
              (first | assumption | exact hc)
              (first | (go_at_call 24; (with_reducible refine (dig_any _ (by omega) (by omega) _ (HTB.out _ (HST.out _ (by assumption)))).mono ?_); rintro e wA ⟨rfl, hbA⟩; have hchA := below_step (by assumption) hbA; have hcA := HCELL.out _ (HST.out _ hchA)) | (go_at_call 23; rw [HEQ.out]; (with_reducible refine (txt_write (outT Z k) (HWR.out.below (by assumption)) HL.out ?_).mono ?_); (exact Nat.le_trans (show w.heap.size ≤ wr.heap.size by omega) (Below.size (by assumption))); rintro e wB ⟨rfl, htB, hbB⟩; have hcB := HCELL.out wB (Below.trans (HST.out _ (by assumption)) hbB); rw [← hS.out] at htB; have HF := Lib.hid (And.intro htB (Below.trans (HST.out _ (by assumption)) hbB))))
            all_goals
              go_wp2
              go_roundw
              case rel => exact ⟨k + 1, by omega, by go_num, HF.out.1, HF.out.2, HF.out.1.lt⟩
              case measure => simp [intOf]; omega
          · have hp' : decide (Z (18 + k) > 0) = false := decide_eq_false hp
            have hT : outT Z k = [] := if_neg hp
            have HTT := Lib.hid hT
            clear hT
            go_wp2
            go_roundw
            case rel => exact ⟨k + 1, by omega, by go_num, by rw [hS.out, HTT.out, List.append_nil]; exact HWR.out, HBR.out, hsr'⟩
            case measure => simp [intOf]; omega
        · obtain rfl : k = 64 := by omega
          have HS := Lib.hid (string_calls w.heap.size w.heap.size (outs Z 64) wr HWR.out (by omega))
          go_wp2_with fail
          refine (HS.out).mono ?_
          rintro e w6 ⟨rfl, hb6⟩
          have HB6 := Lib.hid (HBR.out.trans hb6)
          clear hb6
          go_wp2
          go_ret
          exact ⟨rfl, HB6.out⟩

end Go.Proofs.YtpkfmikpgfgbgaaDoor
