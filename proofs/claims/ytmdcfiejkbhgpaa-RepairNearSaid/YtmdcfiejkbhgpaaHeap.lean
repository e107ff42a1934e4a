/-
  spf.waiting: its methods.
-/
import Derived.Test.YtmdcfiejkbhgpaaRight
import Derived.Test.YtmdcfiejkbhgpaaHp
import Derived.Test.YtmdcfiejkbhgpaaRWithout
import Derived.BigRegion
import Derived.Deep.RegionLaw
namespace Go.Proofs.Ytmdcfiejkbhgpaa
open Go.RowKit

def rcc (x : Int × Int) : List Value := [.int .i64 x.1, .int .i64 x.2]
theorem rcc_len (x : Int × Int) : (rcc x).length = 2 := rfl
theorem rcc_one (x : Int × Int) : ∀ u ∈ rcc x, u.oneCell' = true := by
  intro u hu
  simp [rcc] at hu
  rcases hu with rfl | rfl <;> rfl
def RowW (w : World) (B g cap : Nat) (q : Wq) : Prop := w.ownsRow B 88 2 (.slice (some ⟨g, 0, none⟩) q.length cap) q.length (flatE rcc q)
/-- block p holds the slice of those that wait -/
def WaitAt (w : World) (B p : Nat) (q : Wq) : Prop := B ≤ p ∧ ∃ g cap, g ≠ p ∧ w.heap[p]? = some (.cells #[.slice (some ⟨g, 0, none⟩) q.length cap] 90 (0, 0)) ∧ RowW w B g cap q
theorem Try.info_reach : (Try.prog.info? 88).map (fun i => (i.zero, i.size, i.bytes)) = some (some (.agg #[.int .i64 0, .int .i64 0]), 2, 16) := by kernel_rfl
theorem reach_size : (Try.prog.info? 88).map (·.size) = some 2 := by kernel_rfl

theorem len_any (A : Option Addr) (n c : Nat) (w : World) : Calls Try.prog 69 #[.slice A n c] w fun e w' => e = .returned (.int .i64 n) ∧ w' = w := by
  go_enter Try.func69, Try.ntmps69
  go_wp2
  go_ret
  exact ⟨rfl, rfl⟩

theorem RowW.cells {w : World} {B g cap : Nat} {q : Wq} (h : RowW w B g cap q) {i : Nat} (hi : i < q.length) : w.cell? ⟨g, i * 2, none⟩ = some (.int .i64 (q.getD i (0, 0)).1) ∧ w.cell? ⟨g, i * 2 + 1, none⟩ = some (.int .i64 (cst q i)) := by
  obtain ⟨x, hx⟩ := at_lt rfl hi
  have e : q.getD i (0, 0) = x := getD_of hx
  unfold cst
  rw [e]
  have h0 := flatE_at rcc_len hx (show 0 < 2 by omega)
  have h1 := flatE_at rcc_len hx (show 1 < 2 by omega)
  rw [Nat.add_zero] at h0
  exact ⟨by rw [World.ownsRow.cellAt h _ (by omega), h0]; rfl, by rw [World.ownsRow.cellAt h _ (by omega), h1]; rfl⟩

set_option maxRecDepth 100000 in
set_option maxHeartbeats 4000000 in
theorem less_any {w : World} {B g cap : Nat} {q : Wq} (h : RowW w B g cap q) {i j : Nat} (hi : i < q.length) (hj : j < q.length) :
    Calls Try.prog 117 #[.slice (some ⟨g, 0, none⟩) q.length cap, .int .i64 i, .int .i64 j] w fun e w' => e = .returned (.bool (decide (cst q i < cst q j))) ∧ ∃ k, w' = w.drewN k := by
  have c1 := (h.cells hi).2
  have c2 := (h.cells hj).2
  have hi1 : (i : Int) < q.length := by omega
  have hj1 : (j : Int) < q.length := by omega
  have hi0 : (0 : Int) ≤ i := by omega
  have hj0 : (0 : Int) ≤ j := by omega
  generalize cst q i = ci at *
  generalize cst q j = cj at *
  clear h
  go_enter Try.func117, Try.ntmps117
  go_upto_region 1 with fail
  go_quiet (fail)
  go_wp2
  go_ret
  exact ⟨rfl, _, rfl⟩

set_option maxRecDepth 100000 in
set_option maxHeartbeats 4000000 in
theorem swap_any {w : World} {B g cap : Nat} {q : Wq} (h : RowW w B g cap q) {i j : Nat} (hi : i < q.length) (hj : j < q.length) :
    Calls Try.prog 120 #[.slice (some ⟨g, 0, none⟩) q.length cap, .int .i64 i, .int .i64 j] w fun e w' => e = .returned (.tuple #[]) ∧ RowW w' B g cap (swapQ q i j) ∧ w.grownBy w' (some g) := by
  obtain ⟨a1, a2⟩ := h.cells hi
  obtain ⟨b1, b2⟩ := h.cells hj
  have hi1 : (i : Int) < q.length := by omega
  have hj1 : (j : Int) < q.length := by omega
  have hi0 : (0 : Int) ≤ i := by omega
  have hj0 : (0 : Int) ≤ j := by omega
  have HR := Lib.hid h
  have HI := Lib.hid hi
  have HJ := Lib.hid hj
  have f1 := World.ownsRow.frozenAt h (i * 2)
  have f2 := World.ownsRow.frozenAt h (i * 2 + 1)
  have f3 := World.ownsRow.frozenAt h (j * 2)
  have f4 := World.ownsRow.frozenAt h (j * 2 + 1)
  have eA : q.getD i (0, 0) = ((q.getD i (0, 0)).1, cst q i) := rfl
  have eB : q.getD j (0, 0) = ((q.getD j (0, 0)).1, cst q j) := rfl
  have HE := Lib.hid (And.intro eA eB)
  clear h hi hj eA eB
  generalize (q.getD i (0, 0)).1 = ai at *
  generalize cst q i = ci at *
  generalize (q.getD j (0, 0)).1 = aj at *
  generalize cst q j = cj at *
  obtain ⟨s1, hs1⟩ := cell?_setCell_some (w := w) (p := ⟨g, i * 2, none⟩) (x := .int .i64 aj) (q := ⟨g, j * 2, none⟩) (v := .int .i64 aj) b1
  obtain ⟨s2, hs2⟩ := cell?_setCell_some (w := w) (p := ⟨g, i * 2, none⟩) (x := .int .i64 aj) (q := ⟨g, j * 2 + 1, none⟩) (v := .int .i64 cj) b2
  obtain ⟨t1, ht1⟩ := cell?_setCell_some (p := ⟨g, i * 2 + 1, none⟩) (x := .int .i64 cj) hs1
  obtain ⟨t2, ht2⟩ := cell?_setCell_some (p := ⟨g, i * 2 + 1, none⟩) (x := .int .i64 cj) hs2
  obtain ⟨u2, hu2⟩ := cell?_setCell_some (p := ⟨g, j * 2, none⟩) (x := .int .i64 ai) ht2
  go_enter Try.func120, Try.ntmps120
  go_region
  go_wp2
  go_end0
  have h1 := own_setCells (rcc (aj, cj)) (i * 2) HR.out
  have h2 := own_setCells (rcc (ai, ci)) (j * 2) h1
  refine ⟨rfl, ?_, ?_⟩
  · have e : swapQ q i j = (q.set i (aj, cj)).set j (ai, ci) := by unfold swapQ; rw [HE.out.1, HE.out.2]
    have e2 : flatE rcc (swapQ q i j) = setAll (setAll (flatE rcc q) (i * 2) (rcc (aj, cj))) (j * 2) (rcc (ai, ci)) := by
      rw [e, flatE_set rcc_len _ _ _ (by simpa using HJ.out), flatE_set rcc_len _ _ _ HI.out]
    unfold RowW
    rw [e2, swapQ_len]
    exact own_below h2 (below_dN 1)
  · exact grown_trans (grown_trans (grown_setCells (rcc (aj, cj)) (i * 2) w) (grown_setCells (rcc (ai, ci)) (j * 2) _)) (grown_of_below (below_dN 1) _)

/-- a pair put behind a row of the call's own, in a region that draws -/
theorem step_reach {ops : Array Oper} {o : Oper} {a : Act} {w : World} {K : Act → World → Prop} {Q : Exit → Act → World → Prop} {E : Prop} (hgd : o.guard = none) (s x : Operand)
    (ho : o.op = .call { callee := .builtin .append, args := #[s, x], argTypes := #[90, 90] })
    (B g cap : Nat) (q : Wq) (z : Int × Int) (hs : a.eval s = .slice (some ⟨g, 0, none⟩) q.length cap) (hown : RowW w B g cap q) (b : Nat) (hx : a.eval x = .slice (some ⟨b, 0, none⟩) 1 1) (hr : ∀ j u, (rcc z)[j]? = some u → w.cell? ((⟨b, 0, none⟩ : Addr).add j) = some u)
    (hsz : q.length ≤ 1000000) (hB : B ≤ w.heap.size)
    (h : ∀ g' cap' w', RowW w' B g' cap' (q ++ [z]) → (g' = g ∨ g' = w.heap.size) → w.grownBy w' (some g) → K (a.put o.dst (.slice (some ⟨g', 0, none⟩) (q ++ [z]).length cap')) w') :
    if Region.wanted o (yielded ops a.tmps) = true then Oper.wp Try.prog o a w K Q else E := by
  have hw : Region.wanted o (yielded ops a.tmps) = true := by simp [Region.wanted, hgd]
  rw [if_pos hw]
  obtain ⟨i0, hi, hz0, hz1, hz2⟩ := info_parts Try.info_reach
  obtain ⟨v', w', hrun, hown', hg, hnil, hat⟩ := run_append_own_at (P := Try.prog) w B 90 o.type 88 i0 (.agg #[.int .i64 0, .int .i64 0]) 2 16 Try.underlying90 hi hz0 hz1 hz2 rfl (by decide) _ q.length _ hown ⟨b, 0, none⟩ 1 1 (rcc z) rfl hr (rcc_one z) (by unfold maxLen; omega) (by omega) hB
  unfold Oper.wp
  simp [execOp, ho, resolve, invoke, builtin, hs, hx, hrun, Result.andThen]
  rcases own_form hown' with ⟨h0, h1⟩ | ⟨g', cap', rfl, -⟩
  · omega
  have e : q.length + 1 = (q ++ [z]).length := by simp
  rw [e]
  refine h g' cap' w' ?_ (by simpa [Value.ownBlock] using hat) hg
  unfold RowW
  rw [flatE_append, ← e]
  have e1 : flatE rcc [z] = rcc z := by simp [flatE]
  rw [e1]
  exact hown'

theorem cell_box1 {w : World} {p : Nat} {u : Value} {t : TypeId} (h : w.heap[p]? = some (.cells #[u] t (0, 0))) : w.cell? ⟨p, 0, none⟩ = some u := by simp [World.cell?, h]
theorem frozen_box1 {w : World} {p : Nat} {u : Value} {t : TypeId} (h : w.heap[p]? = some (.cells #[u] t (0, 0))) : w.frozen? ⟨p, 0, none⟩ = false := by simp [World.frozen?, h]
theorem WaitAt.cell {w : World} {B p : Nat} {q : Wq} (h : WaitAt w B p q) : B ≤ p ∧ ∃ g cap, g ≠ p ∧ w.cell? ⟨p, 0, none⟩ = some (.slice (some ⟨g, 0, none⟩) q.length cap) ∧ w.frozen? ⟨p, 0, none⟩ = false ∧ w.heap[p]? = some (.cells #[.slice (some ⟨g, 0, none⟩) q.length cap] 90 (0, 0)) ∧ RowW w B g cap q ∧ B ≤ g ∧ g < w.heap.size ∧ p < w.heap.size := by
  obtain ⟨hp, g, cap, hne, hb, hr⟩ := h
  refine ⟨hp, g, cap, hne, by simp [World.cell?, hb], by simp [World.frozen?, hb], hb, hr, ?_⟩
  rcases own_form hr with ⟨h0, _⟩ | ⟨g', cap', hv, hg, hlt, _⟩
  · cases h0
  · cases hv
    exact ⟨hg, hlt, (Array.getElem?_eq_some_iff.1 hb).1⟩

/-- a slice is put into block p -/
theorem waitAt_put {w : World} {B p g cap : Nat} {q : Wq} {u : Value} (hp : B ≤ p) (hne : g ≠ p) (hb : w.heap[p]? = some (.cells #[u] 90 (0, 0))) (hr : RowW w B g cap q) {m : Nat} (hm : q.length = m) :
    WaitAt (w.setCell ⟨p, 0, none⟩ (.slice (some ⟨g, 0, none⟩) m cap)) B p q := by
  subst hm
  refine ⟨hp, g, cap, hne, ?_, ?_⟩
  · rw [heap_setCell_same w p 0 #[u] 90 _ hb]; rfl
  · exact World.ownsRow.kept hr (grown_set1 w p 0 _) (by simp [Value.ownBlock]; omega)
theorem WaitAt.below {w w' : World} {B p : Nat} {q : Wq} (h : WaitAt w B p q) (hb : Below w.heap.size w w') : WaitAt w' B p q := by
  obtain ⟨hp, g, cap, hne, hbl, hr⟩ := h
  exact ⟨hp, g, cap, hne, (hb.block p (Array.getElem?_eq_some_iff.1 hbl).1).trans hbl, own_below hr hb⟩
theorem below_of_grown {w w' : World} {B g : Nat} (hg : w.grownBy w' (some g)) (hB : B ≤ g) (hBw : B ≤ w.heap.size) : Below B w w' :=
  (Below.refl B w).grown hg hBw (fun k hk => by cases hk; exact hB)
/-- block X is neither the box nor the row of those that wait -/
def OffW (w : World) (p X : Nat) : Prop := X ≠ p ∧ X < w.heap.size ∧ ∀ g n c, w.cell? ⟨p, 0, none⟩ = some (.slice (some ⟨g, 0, none⟩) n c) → g ≠ X
theorem reach_is (w : World) (v : Value) : (Instr.typeAssert (.iface 88 v) 20 88 false).run Try.prog w = .ok v w := by kernel_rfl
theorem reach_is_ok (w : World) (v : Value) : (Instr.typeAssert (.iface 88 v) 20 88 true).run Try.prog w = .ok (.tuple #[v, .bool true]) w := by kernel_rfl

set_option maxRecDepth 100000 in
set_option maxHeartbeats 4000000 in
theorem wpush_any {w : World} {B p X : Nat} {q : Wq} (h : WaitAt w B p q) (hX : OffW w p X) (x : Int × Int) (hl : q.length ≤ 100000) :
    Calls Try.prog 119 #[.pointer (some ⟨p, 0, none⟩), .iface 88 (.agg #[.int .i64 x.1, .int .i64 x.2])] w fun e w' => e = .returned (.tuple #[]) ∧ WaitAt w' B p (q ++ [x]) ∧ Below B w w' ∧ OffW w' p X ∧ w'.heap[X]? = w.heap[X]? := by
  obtain ⟨hBp, g, cap, hne, hc, hf, hbl, hrow, hBg, hg, hp⟩ := h.cell
  have HX := Lib.hid (And.intro hX (hX.2.2 _ _ _ hc))
  clear hX
  obtain ⟨x1, x2⟩ := x
  have HR := Lib.hid hrow
  have HBL := Lib.hid hbl
  clear h hrow hbl
  go_enter Try.func119, Try.ntmps119
  have hpne : p ≠ w.heap.size := by omega
  have HN1 := Lib.hid (new_cells w (rcc (x1, x2)) 88)
  have HR1 := Lib.hid (own_below HR.out (below_al1 w (.cells #[.int .i64 x1, .int .i64 x2] 88)))
  have hBw : B ≤ w.heap.size + 1 := by omega
  have hta := reach_is
  have HBP := Lib.hid (((below_al1 w (.cells #[.int .i64 x1, .int .i64 x2] 88)).block p hp).trans HBL.out)
  have HLP := Lib.hid (show p < (w.alloc (.cells #[.int .i64 x1, .int .i64 x2] 88)).heap.size by simp; omega)
  have HNP := Lib.hid (show some p ≠ some g by simp; omega)
  go_region_law (refine step_reach rfl _ _ rfl B g cap q (x1, x2) rfl (own_below HR1.out (below_dN 1)) w.heap.size rfl HN1.out (by omega) (by simp; omega) ?_; intro g' cap' w' hrow hat hgr; have hbp := (hgr.block p HLP.out HNP.out).trans HBP.out; have hcp := cell_box1 hbp; have hfp := frozen_box1 hbp)
  all_goals
    go_wp2
    go_end0
    have hgp : g' ≠ p := by
      rcases hat with h | h
      · omega
      · rw [h]; simp; omega
    have hB1 : Below B w w' := ((below_al1 w (.cells #[.int .i64 x1, .int .i64 x2] 88)).mono (by omega)).trans (below_of_grown (grown_trans (grown_of_below (below_dN 1) (some g)) hgr) hBg (by simp; omega))
    have hgx : g' ≠ X := by
      rcases hat with h | h
      · rw [h]; exact HX.out.2
      · rw [h]
        have := HX.out.1.2.1
        simp
        omega
    have hsz := hB1.size
    refine ⟨rfl, waitAt_put hBp hgp hbp hrow (by simp), hB1.setCell (p := ⟨p, 0, none⟩) hBp _, ⟨HX.out.1.1, ?_, ?_⟩, ?_⟩
    · have := HX.out.1.2.1
      simp
      omega
    · intro g2 n2 c2 h2
      rw [cell_box1 (heap_setCell_same w' p 0 _ _ _ hbp)] at h2
      cases h2
      exact hgx
    · rw [heap_setCell_other _ _ _ _ HX.out.1.1]
      refine (hgr.block X ?_ (by simp only [ne_eq, Option.some.injEq]; exact fun e => HX.out.2 e.symm)).trans ((below_al1 w (.cells #[.int .i64 x1, .int .i64 x2] 88)).block X HX.out.1.2.1)
      have := HX.out.1.2.1
      simp
      omega
end Go.Proofs.Ytmdcfiejkbhgpaa
