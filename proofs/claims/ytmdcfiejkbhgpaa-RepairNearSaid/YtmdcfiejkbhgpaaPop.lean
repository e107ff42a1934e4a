/-
  spf.waiting: Pop; container/heap's up, down, Push, Pop over it.
-/
import Derived.Test.YtmdcfiejkbhgpaaHeap
namespace Go.Proofs.Ytmdcfiejkbhgpaa
open Go.RowKit

theorem RowW.shorter {w : World} {B g cap : Nat} {r : Wq} {x : Int × Int} (h : RowW w B g cap (r ++ [x])) : RowW w B g cap r := by
  unfold RowW at h ⊢
  have e : (r ++ [x]).length = r.length + 1 := by simp
  rw [e] at h
  have h1 := own_shorter h (Nat.le_succ r.length)
  rw [flatE_append, List.take_left' (by rw [flatE_length rcc_len])] at h1
  exact h1

set_option maxRecDepth 100000 in
set_option maxHeartbeats 4000000 in
theorem wpop_any {w : World} {B p : Nat} {r : Wq} {x : Int × Int} (h : WaitAt w B p (r ++ [x])) (hl : r.length ≤ 100000) (hBw : B ≤ w.heap.size) :
    Calls Try.prog 118 #[.pointer (some ⟨p, 0, none⟩)] w fun e w' => e = .returned (.iface 88 (.agg #[.int .i64 x.1, .int .i64 x.2])) ∧ WaitAt w' B p r ∧ Below B w w' := by
  obtain ⟨hBp, g, cap, hne, hc, hf, hbl, hrow, hBg, hg, hp⟩ := h.cell
  have e : (r ++ [x]).length = r.length + 1 := by simp
  have ex : (r ++ [x]).getD r.length (0, 0) = x := by simp [List.getD_eq_getElem?_getD]
  obtain ⟨c1, c2⟩ := hrow.cells (i := r.length) (by simp)
  have hcap : r.length + 1 ≤ cap := by
    rcases own_form hrow with ⟨h0, _⟩ | ⟨g', cap', hv, _, _, hle, _⟩
    · cases h0
    · cases hv; omega
  unfold cst at c2
  rw [ex] at c1 c2
  rw [e] at hc hbl
  obtain ⟨x1, x2⟩ := x
  simp only at c1 c2
  have HR := Lib.hid hrow.shorter
  have HBL := Lib.hid hbl
  clear h hrow hbl e ex
  have hpne : p ≠ w.heap.size := by omega
  have hgne : g ≠ w.heap.size := by omega
  have i0 : (0 : Int) ≤ (r.length : Int) + 1 - 1 := by omega
  have i1 : (r.length : Int) + 1 - 1 < (r.length : Int) + 1 := by omega
  have i2 : ((r.length : Int) + 1 - 1).toNat = r.length := by omega
  have i3 : (r.length : Int) + 1 - 1 ≤ (cap : Int) := by omega
  generalize hm : r.length = m at *
  have HM := Lib.hid hm
  clear hm
  go_enter Try.func118, Try.ntmps118
  go_wp2
  go_ret
  exact ⟨rfl, (waitAt_put hBp hne HBL.out HR.out HM.out).below (below_al1 _ _), (((Below.refl B w).setCell (p := ⟨p, 0, none⟩) hBp _).trans ((below_al1 _ _).mono (by simp; omega)))⟩

theorem meth_of {name : String} {f : Nat} (hi : (Try.prog.info? 86).map (fun i => (i.methods.find? (·.name == name)).map (fun m => (m.func, m.path))) = some (some (some (f, false), #[])))
   (w : World) (p : Nat) (v : Value) (hc : w.cell? ⟨p, 0, none⟩ = some v) : (method 248 86 (.pointer (some ⟨p, 0, none⟩)) name).run Try.prog w = .ok (f, v) w := by
  obtain ⟨i, h1, h2⟩ := Option.map_eq_some_iff.1 hi
  obtain ⟨m, h3, h4⟩ := Option.map_eq_some_iff.1 h2
  simp only [Prod.mk.injEq] at h4
  obtain ⟨h5, h6⟩ := h4
  have hr : ∀ wr, (receiverAt 86 (.val (.pointer (some ⟨p, 0, none⟩))) false (some wr)).run Try.prog w = ((loadVar 90 ⟨p, 0, none⟩).run Try.prog w) := fun _ => by kernel_rfl
  unfold method
  simp [typeInfo, h1, h3, h5, h6, follow, hr, hc, go_sem]
theorem meth_len (w : World) (p : Nat) (v : Value) (hc : w.cell? ⟨p, 0, none⟩ = some v) : (method 248 86 (.pointer (some ⟨p, 0, none⟩)) "Len").run Try.prog w = .ok (69, v) w := meth_of (by kernel_rfl) w p v hc
theorem meth_less (w : World) (p : Nat) (v : Value) (hc : w.cell? ⟨p, 0, none⟩ = some v) : (method 248 86 (.pointer (some ⟨p, 0, none⟩)) "Less").run Try.prog w = .ok (117, v) w := meth_of (by kernel_rfl) w p v hc
theorem meth_swap (w : World) (p : Nat) (v : Value) (hc : w.cell? ⟨p, 0, none⟩ = some v) : (method 248 86 (.pointer (some ⟨p, 0, none⟩)) "Swap").run Try.prog w = .ok (120, v) w := meth_of (by kernel_rfl) w p v hc

/-- the row is turned, the box is not -/
theorem WaitAt.row {w w' : World} {B p g cap : Nat} {q r : Wq} (hp : B ≤ p) (hne : g ≠ p) (hbl : w.heap[p]? = some (.cells #[.slice (some ⟨g, 0, none⟩) q.length cap] 90 (0, 0))) (hl : r.length = q.length) (hg : w.grownBy w' (some g)) (hr : RowW w' B g cap r) : WaitAt w' B p r := by
  refine ⟨hp, g, cap, hne, ?_, hr⟩
  rw [hl]
  exact (hg.block p (Array.getElem?_eq_some_iff.1 hbl).1 (by simp; omega)).trans hbl

def OffX (w w' : World) (p X : Nat) : Prop := OffW w' p X ∧ w'.heap[X]? = w.heap[X]?
theorem OffX.step {w w1 w2 w3 : World} {p X g : Nat} (h : OffX w w1 p X) (hb : Below w1.heap.size w1 w2) (hg : w2.grownBy w3 (some g)) (_hgs : g < w1.heap.size) (hp : p < w1.heap.size) (hgx : g ≠ X) (hgp : g ≠ p) : OffX w w3 p X := by
  obtain ⟨⟨h1, h2, h3⟩, h4⟩ := h
  have hs := hb.size
  have e1 : w3.heap[p]? = w1.heap[p]? := (hg.block p (by omega) (by simp; omega)).trans (hb.block p hp)
  have e2 : w3.heap[X]? = w1.heap[X]? := (hg.block X (by omega) (by simp; omega)).trans (hb.block X h2)
  refine ⟨⟨h1, Nat.lt_of_lt_of_le h2 (Nat.le_trans hs hg.size), fun g2 n c hc => h3 g2 n c ?_⟩, e2.trans h4⟩
  rw [← hc]
  simp [World.cell?, e1]

set_option maxRecDepth 100000 in
set_option maxHeartbeats 4000000 in
theorem up_any {w : World} {B p X : Nat} {q : Wq} {j : Nat} (h : WaitAt w B p q) (hX : OffW w p X) (hu : UpInv q j) (hj : j < q.length) (hl : q.length ≤ 100000) (hBw : B ≤ w.heap.size) :
    Calls Try.prog 77 #[.iface 86 (.pointer (some ⟨p, 0, none⟩)), .int .i64 j] w fun e w' => e = .returned (.tuple #[]) ∧ ∃ q', WaitAt w' B p q' ∧ SameM q q' ∧ IsHp q' ∧ Below B w w' ∧ OffW w' p X ∧ w'.heap[X]? = w.heap[X]? := by
  have HH := Lib.hid h
  have HU := Lib.hid hu
  have HX0 := Lib.hid hX
  clear h hu hX
  go_enter Try.func77, Try.ntmps77
  go_wp2_with fail
  go_loopw [1] (fun v wr => ∃ (k : Nat) (q' : Wq), v = .int .i64 k ∧ k < q'.length ∧ WaitAt wr B p q' ∧ SameM q q' ∧ UpInv q' k ∧ Below B w wr ∧ OffX w wr p X) (fun v _ => (intOf v).toNat)
  case atStart => exact ⟨j, q, rfl, hj, HH.out, SameM.refl _, HU.out, Below.refl _ _, HX0.out, rfl⟩
  case round =>
    obtain ⟨k, q', rfl, hk, hwt, hsm, hup, hbr, hox⟩ := hrel
    obtain ⟨hBp, g, cap, hne, hc, hf, hbl, hrow, hBg, hg, hp⟩ := hwt.cell
    have HOX := Lib.hid hox
    have HGX := Lib.hid (hox.1.2.2 _ _ _ hc)
    clear hox
    have HW := Lib.hid hwt
    have HS := Lib.hid hsm
    have HUP := Lib.hid hup
    have HB := Lib.hid hbr
    have hlq : q'.length ≤ 100000 := by rw [hsm.1]; exact hl
    have HBW := Lib.hid (Nat.le_trans hBw hbr.size)
    clear hwt hsm hup hbr
    by_cases hk0 : k = 0
    · subst hk0
      go_wp2_with fail
      go_end0
      exact ⟨rfl, q', HW.out, HS.out, HUP.out.zero, HB.out, HOX.out.1, HOX.out.2⟩
    · obtain ⟨k, rfl⟩ : ∃ i, k = i + 1 := ⟨k - 1, by omega⟩
      have HK2 := Lib.hid (show (k + 1 - 1) / 2 = k / 2 by omega)
      have w2 : (k : Int).tdiv 2 = ((k / 2 : Nat) : Int) := by rw [Int.tdiv_eq_ediv_of_nonneg (by omega)]; omega
      have w4 : (((k / 2 : Nat) : Int) == (k : Int) + 1) = false := by simp; omega
      have hi : k / 2 < q'.length := by omega
      have hik : k / 2 < k + 1 := by omega
      have hm1 := meth_less wr p _ hc
      have HL := Lib.hid (less_any hrow hk hi)
      have HM2 := Lib.hid (fun n => meth_swap (wr.drewN n) p _ hc)
      have HSW := Lib.hid (fun n => swap_any (own_below hrow (below_dN n)) hi hk)
      have HST := Lib.hid (fun (hc : cst q' (k + 1) < cst q' ((k + 1 - 1) / 2)) => HUP.out.step (by omega) hk hc)
      have HDN := Lib.hid (fun (hc : ¬ cst q' (k + 1) < cst q' ((k + 1 - 1) / 2)) => HUP.out.done hc)
      have HSM := Lib.hid (swapQ_same q' hi hk)
      rw [HK2.out] at HST HDN
      clear HUP
      generalize k / 2 = i at *
      by_cases hlt : cst q' (k + 1) < cst q' i
      · rw [decide_eq_true hlt] at HL
        have HST1 := Lib.hid (HST.out hlt)
        clear HST HDN
        go_wp2_with (first
          | (go_at_call 117; refine (HL.out).mono ?_; rintro e w2 ⟨rfl, n, rfl⟩; have hm2 := HM2.out n)
          | (go_at_call 120; refine (HSW.out n).mono ?_; rintro e w3 ⟨rfl, hrow3, hg3⟩))
        have HW3 := Lib.hid (WaitAt.row hBp hne hbl (swapQ_len q' i (k + 1)) (grown_trans (grown_of_below (below_dN n) _) hg3) hrow3)
        have HB3 := Lib.hid (HB.out.trans ((below_dN n).mono HBW.out))
        have HB4 := Lib.hid (HB3.out.trans (below_of_grown hg3 hBg HBW.out))
        have HS3 := Lib.hid (HS.out.trans HSM.out)
        have hi3 : i < (swapQ q' i (k + 1)).length := by rw [swapQ_len]; exact hi
        refine ⟨⟨i, swapQ q' i (k + 1), rfl, hi3, HW3.out, HS3.out, HST1.out, HB4.out, HOX.out.step (below_dN n) hg3 hg hp HGX.out hne⟩, ?_⟩
        simp [intOf]; omega
      · rw [decide_eq_false hlt] at HL
        have HDN1 := Lib.hid (HDN.out hlt)
        clear HST HDN
        go_wp2_with (first
          | (go_at_call 117; refine (HL.out).mono ?_; rintro e w2 ⟨rfl, n, rfl⟩))
        go_end0
        exact ⟨rfl, q', HW.out.below (below_dN n), HS.out, HDN1.out, HB.out.trans ((below_dN n).mono HBW.out), HOX.out.1, HOX.out.2⟩
end Go.Proofs.Ytmdcfiejkbhgpaa
