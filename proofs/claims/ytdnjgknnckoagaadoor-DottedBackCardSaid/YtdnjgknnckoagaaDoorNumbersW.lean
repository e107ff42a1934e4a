/-
  The law DottedNumbers, walked.
-/
import Derived.Test.YtdnjgknnckoagaaDoorAwake
namespace Go.Proofs.YtdnjgknnckoagaaDoor
open Go.RowKit

/-- a number of 64 bits -/
def i64 (a : Int) : Prop := -9223372036854775808 ≤ a ∧ a ≤ 9223372036854775807
def ok8 (a : Int) : Bool := decide (0 ≤ a) && decide (a ≤ 255)
/-- are the first k of the numbers bytes? -/
def okN (a b c d : Int) : Nat → Bool
  | 0 => true
  | k + 1 => okN a b c d k && ok8 (ith a b c d k)
theorem ok8_iff {a : Int} : ok8 a = true ↔ by8 a := by simp [ok8, by8]
theorem dots_bd {a b c d : Int} (h : ∀ k, i64 (ith a b c d k)) : ∀ k, (dots a b c d k).length ≤ 30 * k
  | 0 => by simp [dots]
  | 1 => by
    have h0 : i64 a := h 0
    have := itoa_len a h0.1 h0.2
    simp only [dots]; omega
  | k + 2 => by
    have h1 := dots_bd h (k + 1)
    have h2 := itoa_len _ (h (k + 1)).1 (h (k + 1)).2
    simp only [dots, List.length_append, List.length_cons, List.length_nil]
    omega
/-- what the text's parse says of the numbers -/
theorem numbers_law (a b c d : Int) : ∃ (a' b' c' d' : Int) (t : Bool), outP (parseP (showA a b c d)) = .tuple #[.agg #[.int .u8 a', .int .u8 b', .int .u8 c', .int .u8 d'], .bool t] ∧
    ((t = true ∧ okN a b c d 4 = true ∧ a' = a ∧ b' = b ∧ c' = c ∧ d' = d ∧ by8 a ∧ by8 b ∧ by8 c ∧ by8 d) ∨ (t = false ∧ okN a b c d 4 = false)) := by
  cases h : parseP (showA a b c d) with
  | some f =>
    obtain ⟨⟨h0, h1, h2, h3⟩, hl⟩ := parse_sound h
    obtain ⟨rfl, rfl, rfl, rfl⟩ := show_inj h0 h1 h2 h3 hl
    refine ⟨f 0, f 1, f 2, f 3, true, rfl, Or.inl ⟨rfl, ?_, rfl, rfl, rfl, rfl, h0, h1, h2, h3⟩⟩
    simp only [okN, ith]
    rw [ok8_iff.2 h0, ok8_iff.2 h1, ok8_iff.2 h2, ok8_iff.2 h3]; rfl
  | none =>
    refine ⟨0, 0, 0, 0, false, rfl, Or.inr ⟨rfl, ?_⟩⟩
    rw [Bool.eq_false_iff]
    intro hok
    simp only [okN, ith, Bool.and_eq_true, true_and] at hok
    obtain ⟨⟨⟨h0, h1⟩, h2⟩, h3⟩ := hok
    obtain ⟨f, hf, -⟩ := parse_complete (ok8_iff.1 h0) (ok8_iff.1 h1) (ok8_iff.1 h2) (ok8_iff.1 h3)
    rw [h] at hf; cases hf

/-- four numbers in a block -/
structure FourI (w : World) (B : Nat) (a b c d : Int) : Prop where
  lt : B < w.heap.size
  at_ : ∀ k, k < 4 → w.cell? ⟨B, k, none⟩ = some (.int .i64 (ith a b c d k))
theorem FourI.below {w w' : World} {B : Nat} {a b c d : Int} (h : FourI w B a b c d) (hb : Below w.heap.size w w') : FourI w' B a b c d :=
  ⟨Nat.lt_of_lt_of_le h.lt hb.size, fun k hk => (hb.cell (p := ⟨B, k, none⟩) h.lt).trans (h.at_ k hk)⟩
theorem FourI.new (w : World) (a b c d : Int) : FourI (w.alloc (.cells #[.int .i64 a, .int .i64 b, .int .i64 c, .int .i64 d] 30)) w.heap.size a b c d :=
  ⟨by simp, fun k hk => by
    rw [cell_of_row _ _ _ _ _ (0, 0) (heap_alloc_new _ _)]
    rcases k with _ | _ | _ | _ | k
    · rfl
    · rfl
    · rfl
    · rfl
    · omega⟩
theorem Four.at8 {w : World} {B : Nat} {a b c d : Int} (h : Four w B a b c d) : ∀ k, k < 4 → w.cell? ⟨B, k, none⟩ = some (.int .u8 (ith a b c d k)) := by
  intro k hk
  rcases k with _ | _ | _ | _ | k
  · exact h.c0
  · exact h.c1
  · exact h.c2
  · exact h.c3
  · omega

theorem below_drewN {B : Nat} {W w : World} (h : Below B W w) (n : Nat) : Below B W (w.drewN n) := ⟨h.os, h.tape, h.output, h.size, h.block⟩

def numv (a b c d : Int) : Value := .agg #[.int .i64 a, .int .i64 b, .int .i64 c, .int .i64 d]
set_option maxRecDepth 100000 in
set_option maxHeartbeats 4000000 in
theorem numbers_any {a b c d : Int} (ha : i64 a) (hb : i64 b) (hc : i64 c) (hd : i64 d) (W : World) (ht : Tab W) :
    Calls Tryd.prog 6 #[numv a b c d] W fun e w' => e = .returned (.bool true) ∧ Below W.heap.size W w' := by
  have HAW := Lib.hid awake_any
  have HTAB := Lib.hid ht
  have HIT : Hid (∀ k, i64 (ith a b c d k)) := Lib.hid (fun k => by
    rcases k with _ | _ | _ | k
    · exact ha
    · exact hb
    · exact hc
    · exact hd)
  have HL := Lib.hid (dots_bd HIT.out)
  have HST := Lib.hid (dots_step a b c d)
  clear ht ha hb hc hd
  unfold numv
  go_enter Tryd.func6, Tryd.ntmps6
  go_wp2_with fail
  have HF0 := Lib.hid (FourI.new W a b c d)
  have HB0 := Lib.hid (below_new W (.cells #[.int .i64 a, .int .i64 b, .int .i64 c, .int .i64 d] 30))
  generalize hw : World.alloc _ _ = w0 at HF0 HB0 ⊢
  clear hw
  refine (HAW.out _ (HTAB.out.below HB0.out)).mono ?_
  rintro e w1 ⟨rfl, hb1⟩
  have HF1 := Lib.hid (HF0.out.below hb1)
  have HB1 := Lib.hid (HB0.out.trans (hb1.mono HB0.out.size))
  clear hb1 HF0 HB0
  have q := HF1.out.lt
  go_wp2_with fail
  go_loop [4, 5, 6] (fun s o i => ∃ k : Nat, k ≤ 4 ∧ i = .int .i64 k ∧ s = .string (txt (dots a b c d k)) ∧ o = .bool (okN a b c d k)) (fun _ _ i => 4 - (intOf i).toNat)
  case atStart => exact ⟨0, by omega, rfl, rfl, rfl⟩
  case round =>
    obtain ⟨k, hk, rfl, rfl, rfl⟩ := hrel
    by_cases hlt : k < 4
    · have hk0 : (0 : Int) ≤ k := by omega
      have hk4 : (k : Int) < 4 := by omega
      have hcell := HF1.out.at_ k hlt
      have hiB := HIT.out k
      unfold i64 at hiB
      have hil := itoa_len (ith a b c d k) hiB.1 hiB.2
      have hl := HL.out k
      have HON := Lib.hid (show okN a b c d (k + 1) = (okN a b c d k && ok8 (ith a b c d k)) from rfl)
      have HON2 := Lib.hid (show ok8 (ith a b c d k) = (decide (0 ≤ ith a b c d k) && decide (ith a b c d k ≤ 255)) from rfl)
      rcases k with _ | k
      · go_wp2_with fail
        refine (rdig_any _ hiB.1 hiB.2 _).mono ?_
        rintro e w2 ⟨rfl, rfl⟩
        go_wp2
        all_goals
          go_round
          case rel => exact ⟨1, by omega, by go_num, rfl, by rw [HON.out, HON2.out]; first | (simp_all [okN]; done) | (simp_all [okN]; omega)⟩
          case measure => decide
      · have hk1 : decide (((k + 1 : Nat) : Int) > 0) = true := decide_eq_true (by omega)
        have hst := HST.out k
        have e1 : ¬ 9223372036854775807 < (dots a b c d (k + 1)).length + 1 := by omega
        have e2 : ¬ 9223372036854775807 < (dots a b c d (k + 1)).length + 1 + (Lib.itoa (ith a b c d (k + 1))).length := by omega
        generalize okN a b c d (k + 1) = o at *
        cases o
        all_goals
          go_wp2_with fail
          refine (rdig_any _ hiB.1 hiB.2 _).mono ?_
          rintro e w2 ⟨rfl, rfl⟩
          go_wp2
          all_goals
            go_round
            case rel => exact ⟨k + 2, by omega, by go_num, rfl, by rw [HON.out, HON2.out]; first | (simp_all; done) | (simp_all; omega)⟩
            case measure => simp [intOf]; omega
    · obtain rfl : k = 4 := by omega
      have HP := Lib.hid (fun w => parse_any (txt (showA a b c d)) (by have := HL.out 4; rw [txt_size]; unfold showA; omega) w)
      obtain ⟨a', b', c', d', t, ho, hcase⟩ := numbers_law a b c d
      have HO : Hid (outP (parseP (txt (showA a b c d)).data.toList) = .tuple #[.agg #[.int .u8 a', .int .u8 b', .int .u8 c', .int .u8 d'], .bool t]) := Lib.hid (by rw [txt_list]; exact ho)
      have HCASE := Lib.hid hcase
      unfold showA at HP HO
      clear ho hcase
      go_wp2_with fail
      refine (HP.out _).mono ?_
      rintro e w2 ⟨rfl, hb2⟩
      have HF2 := Lib.hid (HF1.out.below hb2)
      have HB2 := Lib.hid (HB1.out.trans (hb2.mono HB1.out.size))
      clear hb2
      rw [HO.out]
      clear HO
      go_wp2_with fail
      have HG3 := Lib.hid (Four.new w2 a' b' c' d')
      have HF3 := Lib.hid (HF2.out.below (below_new w2 (.cells #[.int .u8 a', .int .u8 b', .int .u8 c', .int .u8 d'] 22)))
      have HB3 := Lib.hid (HB2.out.trans ((below_new w2 (.cells #[.int .u8 a', .int .u8 b', .int .u8 c', .int .u8 d'] 22)).mono HB2.out.size))
      generalize hw : World.alloc _ _ = w3 at HF3 HB3 HG3 ⊢
      clear hw q
      have hg := HG3.out.lt
      rcases HCASE.out with ⟨rfl, hok, rfl, rfl, rfl, rfl, h0, h1, h2, h3⟩ | ⟨rfl, hok⟩
      · rw [hok]
        have HB8 := Lib.hid (ith_by8 h0 h1 h2 h3)
        clear hok h0 h1 h2 h3
        go_wp2_with fail
        go_loopw [9] (fun i w' => ∃ k : Nat, k ≤ 4 ∧ i = .int .i64 k ∧ Below w3.heap.size w3 w') (fun i _ => 4 - (intOf i).toNat)
        case atStart => exact ⟨0, by omega, rfl, Below.refl _ _⟩
        case round =>
          obtain ⟨k, hk, rfl, hbel⟩ := hrel
          have HBEL := Lib.hid hbel
          clear hbel
          by_cases hlt : k < 4
          · have hk0 : (0 : Int) ≤ k := by omega
            have hk4 : (k : Int) < 4 := by omega
            have m1 := (HF3.out.below HBEL.out).at_ k hlt
            have m2 := (HG3.out.below HBEL.out).at8 k hlt
            have h8 := HB8.out k
            unfold by8 at h8
            have hw : IntKind.i64.wrap (ith a' b' c' d' k) = ith a' b' c' d' k := IntWalk.i64_in _ (by omega)
            go_wp2_with fail
            go_quiet (fail)
            go_wp2
            go_roundw
            case rel => exact ⟨k + 1, by omega, by go_num, below_drewN HBEL.out _⟩
            case measure => simp [intOf]; omega
          · obtain rfl : k = 4 := by omega
            go_wp2_with fail
            go_ret
            exact ⟨rfl, HB3.out.trans (HBEL.out.mono HB3.out.size)⟩
      · rw [hok]
        clear hok
        go_wp2_with fail
        go_loop [9] (fun i => i = .int .i64 0) (fun _ => 0)
        case atStart => rfl
        case round =>
          obtain rfl := hrel
          go_wp2_with fail
          go_ret
          exact ⟨rfl, HB3.out⟩
end Go.Proofs.YtdnjgknnckoagaaDoor
