/-
  The reference's Add.
-/
import Derived.Test.YtpkfmikpgfgbgaaDoorAdd
namespace Go.Proofs.YtpkfmikpgfgbgaaDoor
open Go.RowKit

/-- a box with the reference's verdict -/
def rbox (what why port : Int) (mpls : Bool) (s : ByteArray) : Obj := .cells #[.int .i64 what, .int .i64 why, .int .i64 port, .bool mpls, .string s] 40
/-- on the way: the tally's box, the verdict's, the result's; all else as it was -/
structure RWay (w wi : World) (Z Y : Nat → Int) (what why port : Int) (mpls : Bool) (s : ByteArray) : Prop where
  tl : TlAt wi w.heap.size 31 Z
  box : wi.heap[w.heap.size + 1]? = some (rbox what why port mpls s)
  res : TlAt wi (w.heap.size + 1 + 1) 31 Y
  gr : Below w.heap.size w wi
section
variable {w wi : World} {Z Y : Nat → Int} {what why port : Int} {mpls : Bool} {s : ByteArray}
theorem RWay.cells (h : RWay w wi Z Y what why port mpls s) : wi.cell? ⟨w.heap.size + 1, 0, none⟩ = some (.int .i64 what) ∧ wi.cell? ⟨w.heap.size + 1, 1, none⟩ = some (.int .i64 why) ∧ wi.cell? ⟨w.heap.size + 1, 2, none⟩ = some (.int .i64 port) ∧ wi.cell? ⟨w.heap.size + 1, 4, none⟩ = some (.string s) := by
  refine ⟨?_, ?_, ?_, ?_⟩ <;> (rw [cell_of_row wi _ _ _ _ (0, 0) h.box]; rfl)
theorem RWay.start : RWay w (((w.alloc (.cells (cellsZ Z) 31)).alloc (rbox what why port mpls s)).alloc (.cells (cellsZ zeroZ) 31)) Z zeroZ what why port mpls s := by
  refine ⟨?_, ?_, ?_, by go_grown⟩
  · unfold TlAt
    rw [heap_alloc_old _ _ (by simp; omega), heap_alloc_old _ _ (by simp)]
    exact heap_alloc_new _ _
  · rw [heap_alloc_old _ _ (by simp)]
    have := heap_alloc_new (w.alloc (.cells (cellsZ Z) 31)) (rbox what why port mpls s)
    simpa using this
  · have := heap_alloc_new ((w.alloc (.cells (cellsZ Z) 31)).alloc (rbox what why port mpls s)) (.cells (cellsZ zeroZ) 31)
    unfold TlAt
    simpa using this
theorem RWay.drew (h : RWay w wi Z Y what why port mpls s) : RWay w wi.drew Z Y what why port mpls s := ⟨h.tl, h.box, h.res, h.gr.drew⟩
theorem RWay.set (h : RWay w wi Z Y what why port mpls s) {i : Nat} (hi : i < 146) (x : Int) : RWay w (wi.setCell ⟨w.heap.size, i, none⟩ (.int .i64 x)) (upd Z i x) Y what why port mpls s :=
  ⟨h.tl.set hi x, by rw [heap_setCell_other wi ⟨w.heap.size, i, none⟩ _ _ (by show w.heap.size + 1 ≠ w.heap.size; omega)]; exact h.box, h.res.other (by omega) _, h.gr.setCell (Nat.le_refl _) _⟩
theorem RWay.put (h : RWay w wi Z Y what why port mpls s) (X : Nat → Int) : TlAt (setT wi (w.heap.size + 1 + 1) (cellsZ X)) (w.heap.size + 1 + 1) 31 X ∧ Below w.heap.size w (setT wi (w.heap.size + 1 + 1) (cellsZ X)) :=
  ⟨h.res.putT X, h.gr.grown (setT_grown _ _ _) h.gr.size (fun g e => by cases e; omega)⟩
end
set_option maxRecDepth 100000 in
set_option maxHeartbeats 2000000 in
theorem radd_not (Z : Nat → Int) (what why port : Int) (mpls : Bool) (s : ByteArray) (size : Int) (w : World) (hin : inB what why = false) :
    Calls Tryd.prog 9 #[.agg (cellsZ Z), .agg #[.int .i64 what, .int .i64 why, .int .i64 port, .bool mpls, .string s], .int .i64 size] w fun e w' => e = .returned (.agg (cellsZ Z)) ∧ Below w.heap.size w w' := by
  have HW := Lib.hid (RWay.start (w := w) (Z := Z) (what := what) (why := why) (port := port) (mpls := mpls) (s := s))
  unfold rbox at HW
  have hw : decide (what < 0) = true ∨ decide (what < 0) = false ∧ decide (what > 3) = true ∨ decide (what < 0) = false ∧ decide (what > 3) = false ∧ decide (why < 0) = true ∨ decide (what < 0) = false ∧ decide (what > 3) = false ∧ decide (why < 0) = false ∧ decide (why > 12) = true := by
    have h3 : ¬ (0 ≤ what ∧ what < 4 ∧ 0 ≤ why ∧ why < 13) := of_decide_eq_false hin
    simp only [decide_eq_true_eq, decide_eq_false_iff_not]
    omega
  clear hin
  go_enter Tryd.func9, Tryd.ntmps9
  go_upto_region 1 with fail
  generalize ((w.alloc _).alloc _).alloc _ = w1 at HW ⊢
  obtain ⟨x0, x1, x2, x4⟩ := HW.out.cells
  have hl := HW.out.tl.ldT
  have hs := HW.out.res.stT Z
  have HB := Lib.hid (HW.out.put Z)
  clear HW
  rcases hw with h0 | ⟨h0, h1⟩ | ⟨h0, h1, h2⟩ | ⟨h0, h1, h2, h3⟩
  all_goals
    go_wp2
    refine bodyPost_ret (HB.out.1.res Tryd.results9 _ rfl) rfl ?_
    exact ⟨rfl, HB.out.2⟩

set_option maxRecDepth 100000 in
set_option maxHeartbeats 2000000 in
theorem radd_in {Z : Nat → Int} (hb : Bd 1099511627776 Z) (a r : Nat) (ha : a < 4) (hr : r < 13) (port : Int) (mpls : Bool) (s : ByteArray) (hn : s.size ≤ 65000) (size : Int) (w : World) :
    Calls Tryd.prog 9 #[.agg (cellsZ Z), .agg #[.int .i64 a, .int .i64 r, .int .i64 port, .bool mpls, .string s], .int .i64 size] w fun e w' => e = .returned (.agg (cellsZ (addZ Z (dl a r port s.size size)))) ∧ Below w.heap.size w w' := by
  have HW := Lib.hid (RWay.start (w := w) (Z := Z) (what := a) (why := r) (port := port) (mpls := mpls) (s := s))
  unfold rbox at HW
  have ha' : (a : Int) < 4 := by omega
  have hr' : (r : Int) < 13 := by omega
  have ha0 : (0 : Int) ≤ a := by omega
  have hr0 : (0 : Int) ≤ r := by omega
  have HB := Lib.hid hb
  clear hb
  go_enter Tryd.func9, Tryd.ntmps9
  go_upto_region 1 with fail
  generalize ((w.alloc _).alloc _).alloc _ = w1 at HW ⊢
  obtain ⟨x0, x1, x2, x4⟩ := HW.out.cells
  have g0 : decide ((a : Int) < 0) = false := decide_eq_false (by omega)
  have g1 : decide ((a : Int) > 3) = false := decide_eq_false (by omega)
  have g2 : decide ((r : Int) < 0) = false := decide_eq_false (by omega)
  have g3 : decide ((r : Int) > 12) = false := decide_eq_false (by omega)
  have hc := HW.out.tl.cell (show a < 146 by omega)
  have hf := HW.out.tl.fr a
  have hz := HB.out a
  go_upto_region 4 with fail
  clear hc hf x0 x1 x2 x4 hz g0 g1 g2 g3
  have HW2 := Lib.hid (HW.out.set (show a < 146 by omega) (Z a + 1))
  clear HW
  generalize w1.setCell _ _ = w2 at HW2 ⊢
  change Hid (RWay w w2 (z1 Z a) _ a r port mpls s) at HW2
  have hc := HW2.out.tl.cell (show 4 + r < 146 by omega)
  have hf := HW2.out.tl.fr (4 + r)
  obtain ⟨x0, x1, x2, x4⟩ := HW2.out.cells
  have hz := z1_bd HB.out a (4 + r)
  go_upto_region 5 with fail
  clear hc hf x0 x1 x2 x4 hz
  have HW3 := Lib.hid (HW2.out.set (show 4 + r < 146 by omega) (z1 Z a (4 + r) + 1))
  clear HW2
  generalize w2.setCell _ _ = w3 at HW3 ⊢
  change Hid (RWay w w3 (z2 Z a r) _ a r port mpls s) at HW3
  have hc := HW3.out.tl.cell (show 17 < 146 by omega)
  have hf := HW3.out.tl.fr 17
  obtain ⟨x0, x1, x2, x4⟩ := HW3.out.cells
  have hz := z2_bd HB.out a r 17
  have hmx : (if size < 0 then 0 else size) = mx0 size := rfl
  have hcut : (if 65536 < mx0 size then (65536 : Int) else mx0 size) = cut size := rfl
  have hcb := cut_bd size
  go_upto_region 6 with fail
  clear hc hf x0 x1 x2 x4 hz hcut hmx
  have HW4 := Lib.hid (HW3.out.set (show 17 < 146 by omega) (z2 Z a r 17 + cut size))
  clear HW3
  generalize w3.setCell _ _ = w4 at HW4 ⊢
  change Hid (RWay w w4 (z3 Z a r size) _ a r port mpls s) at HW4
  obtain ⟨x0, x1, x2, x4⟩ := HW4.out.cells
  by_cases ho : outB a port = true
  · have ho' : ((a : Int) = 0 ∨ (a : Int) = 3) ∧ 0 ≤ port ∧ port < 64 := by simpa [outB] using ho
    obtain ⟨q, rfl⟩ := Int.eq_ofNat_of_zero_le ho'.2.1
    have hq : q < 64 := by omega
    have hq' : (q : Int) < 64 := by omega
    have hq0 : (0 : Int) ≤ q := by omega
    have HO := Lib.hid ho
    have hp : ((a : Int) == 0) = true ∨ ((a : Int) == 0) = false ∧ ((a : Int) == 3) = true := by
      rcases ho'.1 with h | h
      · exact .inl (beq_iff_eq.2 h)
      · exact .inr ⟨beq_eq_false_iff_ne.2 (by omega), beq_iff_eq.2 h⟩
    clear ho ho'
    rcases hp with hp | ⟨hp, hp2⟩
    all_goals
      have hc := HW4.out.tl.cell (show 18 + q < 146 by omega)
      have hf := HW4.out.tl.fr (18 + q)
      have hz := z3_bd HB.out a r size (18 + q)
      go_upto_region 8 with fail
      clear hc hf x0 x1 x2 x4 hz hp
      have HW6 := Lib.hid (HW4.out.set (show 18 + q < 146 by omega) (z3 Z a r size (18 + q) + 1))
      clear HW4
      generalize w4.setCell _ _ = w6 at HW6 ⊢
      change Hid (RWay w w6 (z4 Z a r size q) _ a r q mpls s) at HW6
      have hc := HW6.out.tl.cell (show 82 + q < 146 by omega)
      have hf := HW6.out.tl.fr (82 + q)
      obtain ⟨x0, x1, x2, x4⟩ := HW6.out.cells
      have hz := z4_bd HB.out a r size q (82 + q)
      have e1 : IntKind.i64.wrap (z4 Z a r size q (82 + q) + (s.size : Int)) = z4 Z a r size q (82 + q) + s.size := IntWalk.i64_in _ (by omega)
      have HW7 := Lib.hid (HW6.out.set (show 82 + q < 146 by omega) (z4 Z a r size q (82 + q) + s.size)).drew
      go_still_tail 11, (by kernel_rfl)
      go_upto_region 9 with fail
      clear hc hf x0 x1 x2 x4 hz e1 HW6
      generalize (w6.setCell _ _).drew = w7 at HW7 ⊢
      change Hid (RWay w w7 (z5 Z a r size q s.size) _ a r q mpls s) at HW7
      rw [z5_eq Z ha hr size s.size HO.out] at HW7
      have hl := HW7.out.tl.ldT
      have hs := HW7.out.res.stT (addZ Z (dl a r q s.size size))
      have HP := Lib.hid (HW7.out.put (addZ Z (dl a r q s.size size)))
      go_wp2
      refine bodyPost_ret (HP.out.1.res Tryd.results9 _ rfl) rfl ?_
      exact ⟨rfl, HP.out.2⟩
  · have ho' : outB a port = false := by simpa using ho
    have HO := Lib.hid ho'
    have hp : (((a : Int) == 0) = true ∧ (decide (port ≥ 0) = false ∨ decide (port ≥ 0) = true ∧ decide (port < 64) = false)) ∨ (((a : Int) == 0) = false ∧ ((a : Int) == 3) = true ∧ (decide (port ≥ 0) = false ∨ decide (port ≥ 0) = true ∧ decide (port < 64) = false)) ∨ (((a : Int) == 0) = false ∧ ((a : Int) == 3) = false) := by
      have h3 : ¬ (((a : Int) = 0 ∨ (a : Int) = 3) ∧ 0 ≤ port ∧ port < 64) := of_decide_eq_false ho'
      simp only [beq_iff_eq, beq_eq_false_iff_ne, decide_eq_false_iff_not, decide_eq_true_eq]
      omega
    clear ho ho'
    rw [z3_eq Z ha hr size s.size HO.out] at HW4
    have hl := HW4.out.tl.ldT
    have hs := HW4.out.res.stT (addZ Z (dl a r port s.size size))
    have HP := Lib.hid (HW4.out.put (addZ Z (dl a r port s.size size)))
    rcases hp with ⟨hp, hp2 | ⟨hp2, hp3⟩⟩ | ⟨hp, hp2, hp3 | ⟨hp3, hp4⟩⟩ | ⟨hp, hp2⟩
    all_goals
      go_wp2
      refine bodyPost_ret (HP.out.1.res Tryd.results9 _ rfl) rfl ?_
      exact ⟨rfl, HP.out.2⟩

theorem radd_any {Z : Nat → Int} (hb : Bd 1099511627776 Z) (what why port : Int) (mpls : Bool) (s : ByteArray) (hn : s.size ≤ 65000) (size : Int) (w : World) :
    Calls Tryd.prog 9 #[.agg (cellsZ Z), .agg #[.int .i64 what, .int .i64 why, .int .i64 port, .bool mpls, .string s], .int .i64 size] w fun e w' => e = .returned (.agg (cellsZ (addZ Z (dl what why port s.size size)))) ∧ Below w.heap.size w w' := by
  by_cases hi : inB what why = true
  · have hi' : 0 ≤ what ∧ what < 4 ∧ 0 ≤ why ∧ why < 13 := by simpa [inB] using hi
    obtain ⟨a, rfl⟩ := Int.eq_ofNat_of_zero_le hi'.1
    obtain ⟨r, rfl⟩ := Int.eq_ofNat_of_zero_le hi'.2.2.1
    exact radd_in hb a r (by omega) (by omega) port mpls s hn size w
  · have hi' : inB what why = false := by simpa using hi
    rw [dl_not hi', addZ_zero']
    exact radd_not Z what why port mpls s size w hi'

end Go.Proofs.YtpkfmikpgfgbgaaDoor
