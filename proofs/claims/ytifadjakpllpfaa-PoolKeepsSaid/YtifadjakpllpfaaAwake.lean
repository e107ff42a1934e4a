/-
  The law's awake (it holds) and small.
-/
import Derived.Test.YtifadjakpllpfaaSt
namespace Go.Proofs.Ytifadjakpllpfaa
open Go.RowKit

def aX : ByteArray := { data := #[120] }
def aF (id : Int) : Form := if id = 0 then .text aX else if id = 1 then .num 7 else .none
def a2 : List (Value × Int) := [((Form.text aX).val, 1), ((Form.num 7).val, 1)]
theorem aF_val (id : Int) : valAt a2 id = (aF id).val := by
  unfold valAt aF
  by_cases h0 : id = 0
  · subst h0; rfl
  · by_cases h1 : id = 1
    · subst h1; rfl
    · rw [if_neg h0, if_neg h1]
      have : look a2 id = none := by
        unfold look
        rw [if_neg]
        rintro ⟨h2, h3, -⟩
        have : id < 2 := h3
        omega
      rw [this]
      rfl

theorem two_rd (w : World) (x y : Int) : Rd int1 1 (w.alloc (.cells #[.int .i64 x, .int .i64 y] 3)) (some ⟨w.heap.size, 0, none⟩) 2 [x, y] := by
  refine ⟨rfl, fun i z hz => ⟨w.heap.size, 0, rfl, fun j u hu => ?_⟩⟩
  have hj : j = 0 := by
    cases j with
    | zero => rfl
    | succ j => simp [int1] at hu
  subst hj
  cases i with
  | zero => simp at hz; subst hz; simp [int1] at hu; subst hu; simp
  | succ i =>
    cases i with
    | zero => simp at hz; subst hz; simp [int1] at hu; subst hu; simp
    | succ i => simp at hz

set_option maxRecDepth 100000 in
set_option maxHeartbeats 4000000 in
theorem awake_any (w : World) : Calls Try.prog 6 #[] w fun e w' => e = .returned (.bool true) ∧ Below w.heap.size w w' := by
  go_enter Try.func6, Try.ntmps6
  go_wp2_with fail
  refine (new_any 2 w (by decide) (by decide)).mono ?_
  rintro e w1 ⟨rfl, hp, hb⟩
  have HM := Lib.hid (Mut.below (B := w.heap.size) hb)
  have HS := Lib.hid hb.size
  have HP := Lib.hid hp
  clear hp hb
  go_wp2_with fail
  refine (addText_any aX HP.out (by decide) HS.out).mono ?_
  rintro e w2 ⟨rfl, ⟨v2, hp⟩, hm⟩
  rw [show addId 2 [] = 0 from rfl, show addE 2 [] = 0 from rfl]
  have HM2 := Lib.hid (HM.out.trans hm)
  have HP2 := Lib.hid (show PoolAt w2 w.heap.size w.heap.size 2 v2 [((Form.text aX).val, 1)] from hp)
  clear hp hm
  go_wp2_with fail
  refine (addInt_any 7 HP2.out (by decide) HM2.out.size).mono ?_
  rintro e w3 ⟨rfl, ⟨v3, hp⟩, hm⟩
  rw [show addId 2 [((Form.text aX).val, 1)] = 1 from rfl, show addE 2 [((Form.text aX).val, 1)] = 0 from rfl]
  have HM3 := Lib.hid (HM2.out.trans hm)
  have HP3 := Lib.hid (show PoolAt w3 w.heap.size w.heap.size 2 v3 a2 from hp)
  clear hp hm
  go_wp2_with fail
  refine (addHop_any 0 0 0 none none 0 0 0 0 false [] [] (Rd.nil _ _) (Rd.nil _ _) (by decide) (by decide) HP3.out (by decide) HM3.out.size).mono ?_
  rintro e w4 ⟨rfl, ⟨v4, vl, vr, hp, -, -⟩, hm⟩
  rw [show addId 2 a2 = 0 from rfl, show addE 2 a2 = 30 from rfl]
  have HM4 := Lib.hid (HM3.out.trans hm)
  have HP4 := Lib.hid (show PoolAt w4 w.heap.size w.heap.size 2 v4 a2 from hp)
  clear hp hm
  go_wp2_with fail
  refine (text_at 0 (.text aX) rfl HP4.out).mono ?_
  rintro e w5 ⟨rfl, rfl⟩
  rw [show (Form.text aX).str = ({ data := #[120] } : ByteArray) from rfl, show ((Form.text aX).kind == 2) = true from rfl]
  go_wp2_with fail
  refine (int_at 0 (.text aX) rfl HP4.out).mono ?_
  rintro e w5 ⟨rfl, rfl⟩
  rw [show (Form.text aX).int = 0 from rfl, show ((Form.text aX).kind == 1) = false from rfl]
  go_wp2_with fail
  have hal : ∀ x y : Int, Below w5.heap.size w5 (w5.alloc (.cells #[.int .i64 x, .int .i64 y] 3)) := fun x y => by go_grown
  refine (sum_any aF aF_val (HP4.out.mono (hal 1 1)) _ 2 2 [1, 1] (two_rd w5 1 1) (by decide)).mono ?_
  rintro e w6 ⟨rfl, hb⟩
  rw [show ((sumW aF 0 [1, 1]).getD 0) = 14 by simp [sumW, aF, Form.kind, Form.int, wrap64], show (sumW aF 0 [1, 1]).isSome = true by simp [sumW, aF, Form.kind, Form.int, wrap64]]
  have HM6 := Lib.hid (HM4.out.trans (Mut.below (below_step (hal 1 1) hb)))
  have HP6 := Lib.hid (HP4.out.mono (below_step (hal 1 1) hb))
  clear hal hb
  go_wp2_with fail
  have hal : ∀ x y : Int, Below w6.heap.size w6 (w6.alloc (.cells #[.int .i64 x, .int .i64 y] 3)) := fun x y => by go_grown
  refine (sum_any aF aF_val (HP6.out.mono (hal 1 0)) _ 2 2 [1, 0] (two_rd w6 1 0) (by decide)).mono ?_
  rintro e w7 ⟨rfl, hb⟩
  rw [show ((sumW aF 0 [1, 0]).getD 0) = 0 by simp [sumW, aF, Form.kind], show (sumW aF 0 [1, 0]).isSome = false by simp [sumW, aF, Form.kind]]
  have HM7 := Lib.hid (HM6.out.trans (Mut.below (below_step (hal 1 0) hb)))
  have HP7 := Lib.hid (HP6.out.mono (below_step (hal 1 0) hb))
  clear hal hb
  go_wp2_with fail
  refine (ref_some (i := 0) HP7.out rfl (by decide) (by decide)).mono ?_
  rintro e w8 ⟨rfl, hp, hm⟩
  have HM8 := Lib.hid (HM7.out.trans hm)
  have HP8 := Lib.hid (show PoolAt w8 w.heap.size w.heap.size 2 v4 [((Form.text aX).val, 2), ((Form.num 7).val, 1)] from hp)
  clear hp hm
  go_wp2_with fail
  refine (unref_more (i := 0) HP8.out rfl (by decide)).mono ?_
  rintro e w9 ⟨rfl, hp, hm⟩
  have HM9 := Lib.hid (HM8.out.trans hm)
  have HP9 := Lib.hid (show PoolAt w9 w.heap.size w.heap.size 2 v4 a2 from hp)
  clear hp hm
  go_wp2_with fail
  refine (unref_last (i := 0) HP9.out rfl rfl).mono ?_
  rintro e w10 ⟨rfl, hp, hm⟩
  have HM10 := Lib.hid (HM9.out.trans hm)
  have HP10 := Lib.hid (show PoolAt w10 w.heap.size w.heap.size 2 v4 [(.nilIface, 0), ((Form.num 7).val, 1)] from hp)
  clear hp hm
  go_wp2_with fail
  refine (addHop_any 0 3 0 none none 0 0 0 0 false [] [] (Rd.nil _ _) (Rd.nil _ _) (by decide) (by decide) HP10.out (by decide) HM10.out.size).mono ?_
  rintro e w11 ⟨rfl, ⟨v11, vl, vr, hp, ho1, ho2⟩, hm⟩
  rw [show addId 2 [(.nilIface, 0), ((Form.num 7).val, 1)] = 0 from rfl, show addE 2 [(.nilIface, 0), ((Form.num 7).val, 1)] = 0 from rfl]
  obtain ⟨A1, c1, rfl, -, hl1⟩ := Rd.of_own int1_len (by decide) ho1
  obtain ⟨A2, c2, rfl, -, hl2⟩ := Rd.of_own int1_len (by decide) ho2
  have HM11 := Lib.hid (HM10.out.trans hm)
  have HP11 := Lib.hid (show PoolAt w11 w.heap.size w.heap.size 2 v11 [((Form.hop 0 A1 0 c1 3 0 A2 0 c2 false).val, 1), ((Form.num 7).val, 1)] from hp)
  have HL1 := Lib.hid hl1
  have HL2 := Lib.hid hl2
  clear hp hm ho1 ho2 hl1 hl2
  go_wp2_with fail
  refine (hop_at 0 0 3 0 A1 A2 0 c1 0 c2 false [] [] HL1.out HL2.out (by decide) (by decide) rfl HP11.out).mono ?_
  rintro e w12 ⟨vl, vr, rfl, ho1, ho2, hb⟩
  obtain ⟨A3, c3, rfl, -, -⟩ := Rd.of_own int1_len (by decide) ho1
  obtain ⟨A4, c4, rfl, -, -⟩ := Rd.of_own int1_len (by decide) ho2
  have HM12 := Lib.hid (HM11.out.trans (Mut.below hb))
  have HP12 := Lib.hid (HP11.out.mono hb)
  clear ho1 ho2 hb
  have hal : Below w12.heap.size w12 (w12.alloc (.cells #[.int .i64 0, .slice A3 0 c3, .int .i64 3, .int .i64 0, .slice A4 0 c4, .bool false] 35)) := by go_grown
  have HP13 := Lib.hid (HP12.out.mono hal)
  have HM13 := Lib.hid (HM12.out.trans (Mut.below hal))
  clear hal
  go_wp2_with fail
  refine (uses_any 1 HP13.out).mono ?_
  rintro e w13 ⟨rfl, rfl⟩
  rw [show usesAt [((Form.hop 0 A1 0 c1 3 0 A2 0 c2 false).val, 1), ((Form.num 7).val, 1)] 1 = 1 from rfl]
  go_wp2_with fail
  refine (len_any HP13.out).mono ?_
  rintro e w13 ⟨rfl, rfl⟩
  rw [show ((used [((Form.hop 0 A1 0 c1 3 0 A2 0 c2 false).val, 1), ((Form.num 7).val, 1)] : Nat) : Int) = 2 from rfl]
  go_wp2_with fail
  refine (new_not 0 _ (by decide)).mono ?_
  rintro e w13 ⟨rfl, rfl⟩
  go_wp2
  go_ret
  exact ⟨rfl, HM13.out.lt (Nat.le_refl _)⟩

end Go.Proofs.Ytifadjakpllpfaa
