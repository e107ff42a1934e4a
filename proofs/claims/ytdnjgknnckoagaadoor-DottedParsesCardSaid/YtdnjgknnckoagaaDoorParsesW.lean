/-
  The laws DottedParses and DottedBack, walked.
-/
import Derived.Test.YtdnjgknnckoagaaDoorAwake
namespace Go.Proofs.YtdnjgknnckoagaaDoor
open Go.RowKit

theorem same_refl (a b c d : Int) : sameB a b c d a b c d = true := by simp [sameB]
theorem outP_form (l : List UInt8) : ∃ (a b c d : Int) (t : Bool), outP (parseP l) = .tuple #[.agg #[.int .u8 a, .int .u8 b, .int .u8 c, .int .u8 d], .bool t] ∧
    ((t = true ∧ by8 a ∧ by8 b ∧ by8 c ∧ by8 d ∧ showA a b c d = l) ∨ (t = false ∧ a = 0 ∧ b = 0 ∧ c = 0 ∧ d = 0)) := by
  cases h : parseP l with
  | none => exact ⟨0, 0, 0, 0, false, rfl, Or.inr ⟨rfl, rfl, rfl, rfl, rfl⟩⟩
  | some f =>
    obtain ⟨⟨h0, h1, h2, h3⟩, hl⟩ := parse_sound h
    exact ⟨f 0, f 1, f 2, f 3, true, rfl, Or.inl ⟨rfl, h0, h1, h2, h3, hl.symm⟩⟩

set_option maxRecDepth 100000 in
set_option maxHeartbeats 4000000 in
theorem parses_any (s : ByteArray) (W : World) (ht : Tab W) :
    Calls Tryd.prog 4 #[.string s] W fun e w' => e = .returned (.bool true) ∧ Below W.heap.size W w' := by
  have HAW := Lib.hid awake_any
  have HTAB := Lib.hid ht
  clear ht
  go_enter Tryd.func4, Tryd.ntmps4
  go_wp2_with fail
  refine (HAW.out _ HTAB.out).mono ?_
  rintro e w1 ⟨rfl, hb1⟩
  have HB1 := Lib.hid hb1
  clear hb1
  by_cases h100 : 100 < s.size
  · have hz : decide ((s.size : Int) > 100) = true := by simp; omega
    go_wp2_with fail
    go_ret
    exact ⟨rfl, HB1.out⟩
  · have hz : decide ((s.size : Int) > 100) = false := by simp; omega
    have HP := Lib.hid (fun w => parse_any s (by omega) w)
    have HR := Lib.hid (fun w => rparse_any s (by omega) w)
    obtain ⟨a, b, c, d, t, ho, -⟩ := outP_form s.data.toList
    have HO := Lib.hid ho
    have HQ := Lib.hid ((parse_same s.data.toList).symm.trans ho)
    clear ho
    go_wp2_with fail
    refine (HP.out _).mono ?_
    rintro e w2 ⟨rfl, hb2⟩
    have HB2 := Lib.hid (HB1.out.trans (hb2.mono HB1.out.size))
    clear hb2
    rw [HO.out]
    go_wp2_with fail
    have HF3 := Lib.hid (Four.new w2 a b c d)
    have HB3 := Lib.hid (HB2.out.trans ((below_new w2 (.cells #[.int .u8 a, .int .u8 b, .int .u8 c, .int .u8 d] 22)).mono HB2.out.size))
    generalize hw : World.alloc _ _ = w3 at HF3 HB3 ⊢
    clear hw
    refine (HR.out _).mono ?_
    rintro e w4 ⟨rfl, hb4⟩
    have HF4 := Lib.hid (HF3.out.below hb4)
    have HB4 := Lib.hid (HB3.out.trans (hb4.mono HB3.out.size))
    clear hb4
    rw [HQ.out]
    have q := HF4.out.lt
    have q0 := HF4.out.c0
    have q1 := HF4.out.c1
    have q2 := HF4.out.c2
    have q3 := HF4.out.c3
    have hs := same_refl a b c d
    go_wp2_with fail
    have HB5 := Lib.hid (HB4.out.trans ((below_new w4 (.cells #[.int .u8 a, .int .u8 b, .int .u8 c, .int .u8 d] 22)).mono HB4.out.size))
    go_ret
    exact ⟨ret_bool (by simp), HB5.out⟩

set_option maxRecDepth 100000 in
set_option maxHeartbeats 4000000 in
theorem back_any {a b c d : Int} (ha : by8 a) (hb : by8 b) (hc : by8 c) (hd : by8 d) (s : ByteArray) (W : World) (ht : Tab W) :
    Calls Tryd.prog 5 #[av a b c d, .string s] W fun e w' => e = .returned (.bool true) ∧ Below W.heap.size W w' := by
  have HAW := Lib.hid awake_any
  have HTAB := Lib.hid ht
  have HS := Lib.hid (fun w (h : Tab w) => show_any ha hb hc hd w h)
  have HLEN := Lib.hid (show (showA a b c d).length ≤ 120 from dots_len ha hb hc hd 4)
  have HCOM := Lib.hid (parse_complete ha hb hc hd)
  clear ht ha hb hc hd
  unfold av at *
  go_enter Tryd.func5, Tryd.ntmps5
  go_wp2_with fail
  have HF0 := Lib.hid (Four.new W a b c d)
  have HB0 := Lib.hid (below_new W (.cells #[.int .u8 a, .int .u8 b, .int .u8 c, .int .u8 d] 22))
  generalize hw : World.alloc _ _ = w0 at HF0 HB0 ⊢
  clear hw
  refine (HAW.out _ (HTAB.out.below HB0.out)).mono ?_
  rintro e w1 ⟨rfl, hb1⟩
  have HF1 := Lib.hid (HF0.out.below hb1)
  have HB1 := Lib.hid (HB0.out.trans (hb1.mono HB0.out.size))
  clear hb1 HF0 HB0
  by_cases h100 : 100 < s.size
  · have hz : decide ((s.size : Int) > 100) = true := by simp; omega
    go_wp2_with fail
    go_ret
    exact ⟨rfl, HB1.out⟩
  · have hz : decide ((s.size : Int) > 100) = false := by simp; omega
    have HP := Lib.hid (fun w => parse_any s (by omega) w)
    have HP2 := Lib.hid (fun w => parse_any (txt (showA a b c d)) (by have := HLEN.out; rw [txt_size]; omega) w)
    have HO2 : Hid (outP (parseP (txt (showA a b c d)).data.toList) = .tuple #[.agg #[.int .u8 a, .int .u8 b, .int .u8 c, .int .u8 d], .bool true]) := Lib.hid (by
      obtain ⟨f, hf, e0, e1, e2, e3⟩ := HCOM.out
      rw [txt_list, hf, ← e0, ← e1, ← e2, ← e3]; rfl)
    obtain ⟨a', b', c', d', t, ho, hcase⟩ := outP_form s.data.toList
    have HO := Lib.hid ho
    have HCASE := Lib.hid hcase
    clear ho hcase HCOM HLEN
    have q := HF1.out.lt
    have q0 := HF1.out.c0
    have q1 := HF1.out.c1
    have q2 := HF1.out.c2
    have q3 := HF1.out.c3
    go_wp2_with fail
    refine (HS.out _ (HTAB.out.below HB1.out)).mono ?_
    rintro e w2 ⟨rfl, hb2⟩
    have HF2 := Lib.hid (HF1.out.below hb2)
    have HB2 := Lib.hid (HB1.out.trans (hb2.mono HB1.out.size))
    clear hb2 HF1 HB1 q q0 q1 q2 q3
    go_wp2_with fail
    refine (HP2.out _).mono ?_
    rintro e w3 ⟨rfl, hb3⟩
    have HF3 := Lib.hid (HF2.out.below hb3)
    have HB3 := Lib.hid (HB2.out.trans (hb3.mono HB2.out.size))
    clear hb3 HF2 HB2
    rw [HO2.out]
    go_wp2_with fail
    have HG4 := Lib.hid (Four.new w3 a b c d)
    have HF4 := Lib.hid (HF3.out.below (below_new w3 (.cells #[.int .u8 a, .int .u8 b, .int .u8 c, .int .u8 d] 22)))
    have HB4 := Lib.hid (HB3.out.trans ((below_new w3 (.cells #[.int .u8 a, .int .u8 b, .int .u8 c, .int .u8 d] 22)).mono HB3.out.size))
    have HL3 := Lib.hid HF3.out.lt
    generalize hw : World.alloc _ _ = w4 at HF4 HB4 HG4 ⊢
    clear hw HF3 HB3
    refine (HP.out _).mono ?_
    rintro e w5 ⟨rfl, hb5⟩
    have HF5 := Lib.hid (HF4.out.below hb5)
    have HG5 := Lib.hid (HG4.out.below hb5)
    have HB5 := Lib.hid (HB4.out.trans (hb5.mono HB4.out.size))
    clear hb5 HF4 HG4 HB4
    rw [HO.out]
    have q := HF5.out.lt
    have q0 := HF5.out.c0
    have q1 := HF5.out.c1
    have q2 := HF5.out.c2
    have q3 := HF5.out.c3
    have r := HG5.out.lt
    have r0 := HG5.out.c0
    have r1 := HG5.out.c1
    have r2 := HG5.out.c2
    have r3 := HG5.out.c3
    have hs := same_refl a b c d
    have HB6 := Lib.hid (HB5.out.trans ((below_new w5 (.cells #[.int .u8 a', .int .u8 b', .int .u8 c', .int .u8 d'] 22)).mono HB5.out.size))
    rcases HCASE.out with ⟨rfl, ha, hb, hc, hd, hl⟩ | ⟨rfl, rfl, rfl, rfl, rfl⟩
    · have HS' := Lib.hid (fun w (h : Tab w) => show_any ha hb hc hd w h)
      have HE := Lib.hid (show txt (showA a' b' c' d') = s from str_ext.2 hl)
      unfold av at HS'
      clear ha hb hc hd hl HCASE HO HS HP HP2 HO2
      go_wp2_with fail
      refine (HS'.out _ (HTAB.out.below HB6.out)).mono ?_
      rintro e w7 ⟨rfl, hb7⟩
      have HB7 := Lib.hid (HB6.out.trans (hb7.mono HB6.out.size))
      clear hb7
      rw [HE.out]
      go_wp2_with fail
      go_ret
      exact ⟨ret_bool (by simp), HB7.out⟩
    · have hs0 : sameB 0 0 0 0 0 0 0 0 = true := by decide
      clear HCASE HO HS HP HP2 HO2
      go_wp2_with fail
      go_ret
      exact ⟨rfl, HB6.out⟩
end Go.Proofs.YtdnjgknnckoagaaDoor
