/-
  The law DottedTells, walked.
-/
import Derived.Test.YtdnjgknnckoagaaDoorAwake
import Derived.Test.YtdnjgknnckoagaaDoorCls
namespace Go.Proofs.YtdnjgknnckoagaaDoor
open Go.RowKit

theorem no_both (a b c d : Int) : (multiB a b c d && plainB a) = false := by
  unfold multiB plainB
  rw [Bool.eq_false_iff]
  simp
  omega

set_option maxRecDepth 100000 in
set_option maxHeartbeats 4000000 in
theorem tells_any {a b c d : Int} (ha : by8 a) (hb : by8 b) (hc : by8 c) (hd : by8 d) (W : World) (ht : Tab W) :
    Calls Tryd.prog 3 #[av a b c d] W fun e w' => e = .returned (.bool true) ∧ Below W.heap.size W w' := by
  have HAW := Lib.hid (awake_any)
  have HTAB := Lib.hid ht
  have HS := Lib.hid (fun w (h : Tab w) => show_any ha hb hc hd w h)
  have HR := Lib.hid (fun w => rshow_any ha hb hc hd w)
  have HM := Lib.hid (fun w => multi_any a b c d ha.1 ha.2 w)
  have HRM := Lib.hid (fun w => rmulti_any a b c d ha.1 ha.2 w)
  have HP := Lib.hid (fun w => plain_any a b c d ha.1 ha.2 w)
  have HRP := Lib.hid (fun w => rplain_any a b c d ha.1 ha.2 w)
  have HNB := Lib.hid (no_both a b c d)
  clear ht ha hb hc hd
  unfold av at *
  go_enter Tryd.func3, Tryd.ntmps3
  go_wp2_with fail
  refine (HAW.out _ (HTAB.out.below (by go_grown))).mono ?_
  rintro e w1 ⟨rfl, hb1⟩
  have HB0 := Lib.hid hb1
  have HB1 : Hid (Below W.heap.size W w1) := Lib.hid ((show Below W.heap.size W (W.alloc (.cells #[.int .u8 a, .int .u8 b, .int .u8 c, .int .u8 d] 22)) by go_grown).trans (hb1.mono (by simp)))
  have hlt : W.heap.size < w1.heap.size := by have := hb1.size; simp at this; omega
  have c0 : w1.cell? ⟨W.heap.size, 0, none⟩ = some (.int .u8 a) := by rw [hb1.cell (by simp), cell_of_row _ _ _ _ _ (0, 0) (heap_alloc_new _ _)]; rfl
  have c1 : w1.cell? ⟨W.heap.size, 1, none⟩ = some (.int .u8 b) := by rw [hb1.cell (by simp), cell_of_row _ _ _ _ _ (0, 0) (heap_alloc_new _ _)]; rfl
  have c2 : w1.cell? ⟨W.heap.size, 2, none⟩ = some (.int .u8 c) := by rw [hb1.cell (by simp), cell_of_row _ _ _ _ _ (0, 0) (heap_alloc_new _ _)]; rfl
  have c3 : w1.cell? ⟨W.heap.size, 3, none⟩ = some (.int .u8 d) := by rw [hb1.cell (by simp), cell_of_row _ _ _ _ _ (0, 0) (heap_alloc_new _ _)]; rfl
  clear hb1
  go_wp2_with fail
  have d0 : ∀ x : Cls w1.heap.size w1, x.w.cell? ⟨W.heap.size, 0, none⟩ = some (.int .u8 a) := fun x => (x.bel.cell (p := ⟨W.heap.size, 0, none⟩) hlt).trans c0
  have d1 : ∀ x : Cls w1.heap.size w1, x.w.cell? ⟨W.heap.size, 1, none⟩ = some (.int .u8 b) := fun x => (x.bel.cell (p := ⟨W.heap.size, 1, none⟩) hlt).trans c1
  have d2 : ∀ x : Cls w1.heap.size w1, x.w.cell? ⟨W.heap.size, 2, none⟩ = some (.int .u8 c) := fun x => (x.bel.cell (p := ⟨W.heap.size, 2, none⟩) hlt).trans c2
  have d3 : ∀ x : Cls w1.heap.size w1, x.w.cell? ⟨W.heap.size, 3, none⟩ = some (.int .u8 d) := fun x => (x.bel.cell (p := ⟨W.heap.size, 3, none⟩) hlt).trans c3
  have HTX := Lib.hid (fun x : Cls w1.heap.size w1 => HTAB.out.below (HB1.out.trans (x.bel.mono HB1.out.size)))
  have HBX := Lib.hid (fun x : Cls w1.heap.size w1 => HB1.out.trans (x.bel.mono HB1.out.size))
  have hne := Cls.some w1.heap.size w1
  clear c0 c1 c2 c3 hlt HAW HTAB HB1
  cases hmb : multiB a b c d
  all_goals
    refine wp_region_cls w1.heap.size (by kernel_rfl) (by kernel_rfl) ?_
    repeat (quiet_step (first
      | (go_at_call 8; exact cls_of _ (HS.out _ (HTX.out _)) (Nat.le_refl _))
      | (go_at_call 9; exact cls_of _ (HR.out _) (Nat.le_refl _))
      | (go_at_call 10; exact cls_of _ (HM.out _) (Nat.le_refl _))
      | (go_at_call 11; exact cls_of _ (HRM.out _) (Nat.le_refl _))
      | (go_at_call 12; exact cls_of _ (HP.out _) (Nat.le_refl _))
      | (go_at_call 13; exact cls_of _ (HRP.out _) (Nat.le_refl _))))
    refine wpQuiet_nil ?_
    rintro _ ⟨x, rfl⟩
    go_wp2
    go_ret
    first | exact ⟨rfl, HBX.out x⟩ | exact ⟨ret_bool (by have h := HNB.out; rw [hmb] at h; simpa using h), HBX.out x⟩
end Go.Proofs.YtdnjgknnckoagaaDoor
