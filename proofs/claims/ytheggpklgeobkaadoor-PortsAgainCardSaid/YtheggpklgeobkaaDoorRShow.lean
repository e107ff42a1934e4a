/-
  The interfaces' text; the reference's Show, walked.
-/
import Derived.Test.YtheggpklgeobkaaDoorRefC
import Derived.Test.YtheggpklgeobkaaDoorDig
import Derived.Deep.DrawnRows
namespace Go.Proofs.YtheggpklgeobkaaDoor
open Go.RowKit

/-- sizes as the interfaces have them -/
def OkS (S : PS) : Prop := ∀ i x, S i = some x → 68 ≤ x.1 ∧ x.1 ≤ 65535
def OkE (e : Pe) : Prop := 0 ≤ e.num ∧ e.num ≤ 63 ∧ 68 ≤ e.mtu ∧ e.mtu ≤ 65535
theorem OkS.mem {S : PS} (h : OkS S) {e : Pe} (he : e ∈ lst S) : OkE e := by
  obtain ⟨i, hi, hn, hs⟩ := lstT_mem he
  have := h i _ hs
  exact ⟨by omega, by omega, this.1, this.2⟩
/-- a line but for whether it is up -/
def line1 (e : Pe) : List UInt8 := (([112, 111, 114, 116, 32] ++ Lib.itoa e.num) ++ [32, 109, 116, 117, 32]) ++ Lib.itoa e.mtu
def tail1 (u : Bool) : List UInt8 := if u then [32, 117, 112, 10] else [32, 100, 111, 119, 110, 10]
def lineP (e : Pe) : List UInt8 := line1 e ++ tail1 e.up
def showP (l : List Pe) : List UInt8 := l.flatMap lineP
theorem showP_nil : showP [] = [] := rfl
theorem showP_snoc (l : List Pe) (e : Pe) : showP (l ++ [e]) = showP l ++ lineP e := by simp [showP]
theorem line1_len {e : Pe} (h : OkE e) : (line1 e).length ≤ 52 := by
  have h1 := itoa_len e.num (by have := h.1; omega) (by have := h.2.1; omega)
  have h2 := itoa_len e.mtu (by have := h.2.2.1; omega) (by have := h.2.2.2; omega)
  unfold line1
  simp only [List.length_append, List.length_cons, List.length_nil]
  omega
theorem tail1_len (u : Bool) : (tail1 u).length ≤ 6 := by cases u <;> decide
theorem showP_len {l : List Pe} (h : ∀ e ∈ l, OkE e) : (showP l).length ≤ 58 * l.length := by
  induction l with
  | nil => simp [showP]
  | cons e l ih =>
    have h1 := line1_len (h e (by simp))
    have h2 := tail1_len e.up
    have h3 := ih (fun x hx => h x (by simp [hx]))
    unfold showP at *
    simp only [List.flatMap_cons, List.length_append, List.length_cons, lineP]
    omega

set_option maxRecDepth 100000 in
set_option maxHeartbeats 4000000 in
theorem rshow_any {w : World} {A : Option Addr} {m c : Nat} {l : List Pe} (hr : Rd pen 3 w A m l) (hm : m ≤ 64) (hok : ∀ e ∈ l, OkE e) :
    Calls Tryd.prog 22 #[.slice A m c] w fun e w' => e = .returned (.string (txt (showP l))) ∧ Below w.heap.size w w' := by
  have HR := Lib.hid hr
  have HL := Lib.hid hr.1
  have HOK := Lib.hid hok
  clear hr hok
  go_enter Tryd.func22, Tryd.ntmps22
  go_wp2_with fail
  go_loopw [3, 4] (fun s u wr => ∃ k : Nat, k ≤ m ∧ u = .int .i64 k ∧ s = .string (txt (showP (l.take k))) ∧ Below w.heap.size w wr) (fun _ u _ => m - (intOf u).toNat)
  case atStart => exact ⟨0, Nat.zero_le _, rfl, rfl, Below.refl _ _⟩
  case round =>
    obtain ⟨k, hk, rfl, rfl, hbr⟩ := hrel
    have HBR := Lib.hid hbr
    clear hbr
    have hk0 : (0 : Int) ≤ k := by omega
    by_cases hlt : k < m
    · obtain ⟨x, b, off, hx, rfl, hc⟩ := (HR.out.below HBR.out).at_ hlt
      have hk1 : (k : Int) < m := by omega
      have c0 := hc 0 _ rfl
      have c1 := hc 1 _ rfl
      have c2 := hc 2 _ rfl
      rw [Nat.add_zero] at c0
      have hox := HOK.out x (List.mem_of_getElem? hx)
      have hwl := showP_len (l := l.take k) (fun e he => HOK.out e (List.mem_of_mem_take he))
      have hll := line1_len hox
      have hil1 := itoa_len x.num (by have := hox.1; omega) (by have := hox.2.1; omega)
      have hil2 := itoa_len x.mtu (by have := hox.2.2.1; omega) (by have := hox.2.2.2; omega)
      rw [List.length_take] at hwl
      have HX := Lib.hid (show showP (l.take (k + 1)) = showP (l.take k) ++ line1 x ++ tail1 x.up by rw [take_snoc hx, showP_snoc]; simp [lineP])
      obtain ⟨num, mtu, up⟩ := x
      have HOX := Lib.hid hox
      obtain ⟨o1, o2, o3, o4⟩ := hox
      simp only at c0 c1 c2 o1 o2 o3 o4 hil1 hil2 hll
      have HEQ : Hid (txt (showP (l.take k)) ++ ((⟨#[112, 111, 114, 116, 32]⟩ : ByteArray) ++ txt (Lib.itoa num) ++ ⟨#[32, 109, 116, 117, 32]⟩ ++ txt (Lib.itoa mtu)) = txt (showP (l.take k) ++ line1 ⟨num, mtu, up⟩)) := Lib.hid (by unfold line1; rw [← txt_append (showP (l.take k)), ← txt_append, ← txt_append, ← txt_append]; rfl)
      generalize hsp : showP (l.take k) = sp at *
      have n1 : ¬ 9223372036854775807 < 5 + (Lib.itoa num).length := by omega
      have n2 : ¬ 9223372036854775807 < 5 + (Lib.itoa num).length + 5 := by omega
      have n3 : ¬ 9223372036854775807 < 5 + (Lib.itoa num).length + 5 + (Lib.itoa mtu).length := by omega
      have n4 : ¬ 9223372036854775807 < sp.length + (5 + (Lib.itoa num).length + 5 + (Lib.itoa mtu).length) := by omega
      have hspl : sp.length ≤ 3712 := by omega
      clear hx hc hsp hwl
      go_upto_region 5 with fail
      go_quiet ((go_at_call 31; exact Calls.quiet_of_same (rdig_any _ (by omega) (by omega) _)))
      go_upto_region 6 with fail
      rw [HEQ.out]
      clear HEQ
      generalize hsl : sp ++ line1 ⟨num, mtu, up⟩ = sl at *
      have n5 : sl.length ≤ 3764 := by rw [← hsl, List.length_append]; omega
      have n6 : ¬ 9223372036854775807 < sl.length + 4 := by omega
      have n7 : ¬ 9223372036854775807 < sl.length + 5 := by omega
      clear hsl n1 n2 n3 n4 hil1 hil2
      have HBN := Lib.hid (show Below w.heap.size w (wr.drewN nq) from ⟨HBR.out.os, HBR.out.tape, HBR.out.output, HBR.out.size, HBR.out.block⟩)
      cases up
      · have HEQ2 : Hid (txt sl ++ (⟨#[32, 100, 111, 119, 110, 10]⟩ : ByteArray) = txt (showP (l.take (k + 1)))) := Lib.hid (by rw [HX.out, ← txt_append]; rfl)
        go_wp2_with fail
        rw [HEQ2.out]
        go_roundw
        case rel => exact ⟨k + 1, by omega, by go_num, rfl, HBN.out⟩
        case measure => simp [intOf]; omega
      · have HEQ2 : Hid (txt sl ++ (⟨#[32, 117, 112, 10]⟩ : ByteArray) = txt (showP (l.take (k + 1)))) := Lib.hid (by rw [HX.out, ← txt_append]; rfl)
        go_wp2_with fail
        rw [HEQ2.out]
        go_roundw
        case rel => exact ⟨k + 1, by omega, by go_num, rfl, HBN.out⟩
        case measure => simp [intOf]; omega
    · obtain rfl : k = m := by omega
      have HT := Lib.hid (List.take_of_length_le (show l.length ≤ k by rw [HL.out]; omega))
      go_wp2_with fail
      go_ret
      rw [HT.out]
      exact ⟨rfl, HBR.out⟩
end Go.Proofs.YtheggpklgeobkaaDoor
