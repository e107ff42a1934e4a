/-
  same: the program's interfaces are the reference's.
-/
import Derived.Test.YtheggpklgeobkaaDoorRun
namespace Go.Proofs.YtheggpklgeobkaaDoor
open Go.RowKit

theorem str_eq_self (s : ByteArray) : (s.toList == s.toList) = true := beq_self_eq_true _
/-- an interface of two rows -/
theorem row_facts {w : World} {A A' : Option Addr} {k : Nat} {l : List Pe} (h1 : Rd pen 3 w A l.length l) (h2 : Rd pen 3 w A' l.length l) (hk : k < l.length) :
    ∃ (num mtu : Int) (up : Bool) (b o b' o' : Nat), l[k]? = some ⟨num, mtu, up⟩ ∧ A = some ⟨b, o, none⟩ ∧ A' = some ⟨b', o', none⟩ ∧
    w.cell? ⟨b, o + k * 3, none⟩ = some (.int .i64 num) ∧ w.cell? ⟨b, o + k * 3 + 1, none⟩ = some (.int .i64 mtu) ∧ w.cell? ⟨b, o + k * 3 + 2, none⟩ = some (.bool up) ∧
    w.cell? ⟨b', o' + k * 3, none⟩ = some (.int .i64 num) ∧ w.cell? ⟨b', o' + k * 3 + 1, none⟩ = some (.int .i64 mtu) ∧ w.cell? ⟨b', o' + k * 3 + 2, none⟩ = some (.bool up) := by
  obtain ⟨x, b, o, hx, hA, hc⟩ := h1.at_ hk
  obtain ⟨y, b', o', hy, hA', hc'⟩ := h2.at_ hk
  rw [hx] at hy
  cases hy
  exact ⟨x.num, x.mtu, x.up, b, o, b', o', hx, hA, hA', hc 0 _ rfl, hc 1 _ rfl, hc 2 _ rfl, hc' 0 _ rfl, hc' 1 _ rfl, hc' 2 _ rfl⟩

set_option maxRecDepth 100000 in
set_option maxHeartbeats 4000000 in
theorem same_any {W w : World} {p : Nat} {g : PG} {v : Value} (h : Both W w p g v) (ht : Tab w) :
    Calls Tryd.prog 9 #[.pointer (some ⟨p, 0, none⟩), v] w fun e w' => e = .returned (.bool true) ∧ Below w.heap.size w w' := by
  have HH := Lib.hid h
  have HT := Lib.hid ht
  have hl := lst_len (abs g)
  obtain ⟨A, c, rfl, hc, hr⟩ := h.row.rd
  have HR := Lib.hid hr
  have HOK := Lib.hid (fun e (he : e ∈ lst (abs g)) => h.ok.mem he)
  clear h ht hr
  go_enter Tryd.func9, Tryd.ntmps9
  go_wp2_with fail
  refine (all_any HH.out.pts).mono ?_
  rintro e w1 ⟨v1, rfl, hown, hb1⟩
  obtain ⟨A1, c1, rfl, hc1, hr1⟩ := Rd.of_own pen_len (by decide) hown
  have HR1 := Lib.hid hr1
  have HB1 := Lib.hid hb1
  clear hown hr1 hb1
  go_wp2_with fail
  refine (show_any (HH.out.pts.below HB1.out) HH.out.ok (HT.out.below HB1.out)).mono ?_
  rintro e w2 ⟨rfl, hb2⟩
  have HB2 := Lib.hid (HB1.out.trans (hb2.mono HB1.out.size))
  have HR2 := Lib.hid (HR1.out.below hb2)
  clear hb2 HR1 HB1
  go_wp2_with fail
  refine (rshow_any (HR.out.below HB2.out) hl HOK.out).mono ?_
  rintro e w3 ⟨rfl, hb3⟩
  have HB3 := Lib.hid (HB2.out.trans (hb3.mono HB2.out.size))
  have HR3 := Lib.hid (HR2.out.below hb3)
  clear hb3 HR2 HB2
  have hse := str_eq_self (txt (showP (lst (abs g))))
  generalize txt (showP (lst (abs g))) = sx at *
  go_wp2_with fail
  go_loopw [6] (fun i wr => ∃ k : Nat, k ≤ (lst (abs g)).length ∧ i = .int .i64 k ∧ Below w3.heap.size w3 wr) (fun i _ => (lst (abs g)).length - (intOf i).toNat)
  case atStart => exact ⟨0, Nat.zero_le _, rfl, Below.refl _ _⟩
  case round =>
    obtain ⟨k, hk, rfl, hbr⟩ := hrel
    have HBR := Lib.hid hbr
    clear hbr
    have hk0 : (0 : Int) ≤ k := by omega
    by_cases hlt : k < (lst (abs g)).length
    · have hk1 : (k : Int) < (lst (abs g)).length := by omega
      obtain ⟨num, mtu, up, b, o, b', o', -, rfl, rfl, q0, q1, q2, r0, r1, r2⟩ := row_facts (HR3.out.below HBR.out) (HR.out.below (HB3.out.trans (HBR.out.mono HB3.out.size))) hlt
      go_wp2_with fail
      go_quiet (fail)
      have HBN := Lib.hid (show Below w3.heap.size w3 (wr.drewN nq) from ⟨HBR.out.os, HBR.out.tape, HBR.out.output, HBR.out.size, HBR.out.block⟩)
      go_wp2
      go_roundw
      case rel => exact ⟨k + 1, by omega, by go_num, HBN.out⟩
      case measure => simp [intOf]; omega
    · have hke : k = (lst (abs g)).length := by omega
      have hge : ¬ (k : Int) < (lst (abs g)).length := by omega
      clear hke
      go_wp2_with fail
      go_ret
      exact ⟨rfl, HB3.out.trans (HBR.out.mono HB3.out.size)⟩
end Go.Proofs.YtheggpklgeobkaaDoor
