/-
  The law RepairTells, walked.
-/
import Derived.Test.YtmdcfiejkbhgpaaRepE
import Derived.Test.YtmdcfiejkbhgpaaREq
namespace Go.Proofs.Ytmdcfiejkbhgpaa
open Go.RowKit

def gcr (n : Int) (A : Option Addr) (m c : Nat) (s e d : Int) : Array Value := #[.int .i64 n, .slice A m c, .int .i64 s, .int .i64 e, .int .i64 d]
/-- block p holds a graph -/
def BoxQ (W : World) (p : Nat) (n : Int) (A : Option Addr) (m c : Nat) (s e d : Int) : Prop := W.heap[p]? = some (.cells (gcr n A m c s e d) 42 (0, 0))
section
variable {W W' : World} {p : Nat} {n : Int} {A : Option Addr} {m c : Nat} {s e d : Int}
theorem BoxQ.cells (h : BoxQ W p n A m c s e d) : p < W.heap.size ∧ W.cell? ⟨p, 0, none⟩ = some (.int .i64 n) ∧ W.cell? ⟨p, 1, none⟩ = some (.slice A m c) ∧ W.cell? ⟨p, 2, none⟩ = some (.int .i64 s) ∧ W.cell? ⟨p, 3, none⟩ = some (.int .i64 e) ∧ W.cell? ⟨p, 4, none⟩ = some (.int .i64 d) := by
  have h' : W.heap[p]? = _ := h
  refine ⟨(Array.getElem?_eq_some_iff.1 h').1, ?_, ?_, ?_, ?_, ?_⟩ <;> (rw [cell_of_row _ _ _ _ _ (0, 0) h']; rfl)
theorem BoxQ.below (h : BoxQ W p n A m c s e d) (hb : Below W.heap.size W W') : BoxQ W' p n A m c s e d := (hb.block p h.cells.1).trans h
end
/-- the call gives a row that reads as these bools -/
def GivesB (w : World) (xs : List Bool) (e : Ending) (w' : World) : Prop := ∃ A c, e = .returned (.slice A xs.length c) ∧ Rd boc 1 w' A xs.length xs ∧ Below w.heap.size w w'
theorem givesB_of {w w' : World} {v : Value} {xs : List Bool} (h : BolsAt w' w.heap.size v xs) (hb : Below w.heap.size w w') : GivesB w xs (.returned v) w' := by
  obtain ⟨A, c, rfl, hr⟩ := h.rd
  exact ⟨A, c, rfl, hr, hb⟩
theorem bools_any {w : World} {A E : Option Addr} {m k c d : Nat} {a b : List Bool} (ha : Rd boc 1 w A m a) (hb : Rd boc 1 w E k b) (hm : m ≤ 1000000) (hk : k ≤ 1000000) (r : Bool) (hr : decide (a = b) = r) :
    Calls Try.prog 30 #[.slice A m c, .slice E k d] w fun e w' => e = .returned (.bool r) ∧ Below w.heap.size w w' := by
  subst hr
  exact rbools_any ha hb hm hk
theorem nearV_few (n : Int) (l : List Lk) (s e : Int) : (nearV n l s e).length ≤ 64 := by
  unfold nearV
  split
  · rename_i h
    rw [Bool.and_eq_true] at h
    have h1 := (rightG_ok.1 h.1).1.n64
    rw [List.length_map, nodes_len]
    omega
  · simp
theorem farV_few (n : Int) (l : List Lk) (s e d : Int) : (farV n l s e d).length ≤ 64 := by
  unfold farV
  split
  · rename_i h
    rw [Bool.and_eq_true] at h
    have h1 := (rightG_ok.1 h.2).1.n64
    rw [List.length_map, nodes_len]
    omega
  · simp
theorem afterV_few (n : Int) (l : List Lk) (s e d : Int) : (afterV n l s e d).length ≤ 64 := by
  unfold afterV
  split
  · exact pathG_few _ _ _ _
  · simp

set_option maxRecDepth 100000 in
set_option maxHeartbeats 8000000 in
theorem reptells_any {W : World} {A : Option Addr} {m c : Nat} {l : List Lk} (hr : Rd lkc 3 W A m l) (n s e d : Int) :
    Calls Try.prog 8 #[.agg #[.int .i64 n, .slice A m c, .int .i64 s, .int .i64 e, .int .i64 d]] W fun r w' => r = .returned (.bool true) ∧ Below W.heap.size W w' := by
  have HL := Lib.hid hr
  have HA := Lib.hid (awaker_any (W.alloc (.cells (gcr n A m c s e d) 42)))
  clear hr
  go_enter Try.func8, Try.ntmps8
  go_wp2_with fail
  refine (HA.out).mono ?_
  rintro r w1 ⟨rfl, hb1⟩
  have hal := below_al1 W (.cells (gcr n A m c s e d) 42)
  have HBG1 := Lib.hid (show BoxQ w1 W.heap.size n A m c s e d from BoxQ.below (heap_alloc_new _ _) hb1)
  have HW1 := Lib.hid (hal.trans (hb1.mono hal.size))
  have HL1 := Lib.hid (HL.out.below HW1.out)
  generalize hbx : W.heap.size = bx at HBG1 ⊢
  have HBX := Lib.hid hbx
  clear hbx hb1 hal HL HA
  obtain ⟨p0, p1, p2, p3, p4, p5⟩ := HBG1.out.cells
  by_cases hm : m ≤ 30
  · have hm2 : ¬ (m : Int) > 30 := by omega
    have hm3 : m ≤ 1000 := by omega
    have HC := Lib.hid (fun w' (h : Below w1.heap.size w1 w') => show Below w1.heap.size w1 w' ∧ w'.cell? ⟨bx, 0, none⟩ = some (.int .i64 n) ∧ w'.cell? ⟨bx, 1, none⟩ = some (.slice A m c) ∧ w'.cell? ⟨bx, 2, none⟩ = some (.int .i64 s) ∧ w'.cell? ⟨bx, 3, none⟩ = some (.int .i64 e) ∧ w'.cell? ⟨bx, 4, none⟩ = some (.int .i64 d) from by
      obtain ⟨-, q0, q1, q2, q3, q4⟩ := (HBG1.out.below h).cells
      exact ⟨h, q0, q1, q2, q3, q4⟩)
    have HNE := Lib.hid (fun w' (h : Below w1.heap.size w1 w') => (near_any (c := c) (HL1.out.below h) n s e hm3).mono fun r w'' ⟨v, he, h1, h2⟩ => show GivesB w' (nearV n l s e) r w'' by rw [he]; exact givesB_of h1 h2)
    have HRN := Lib.hid (fun w' (h : Below w1.heap.size w1 w') => (rnear_any (c := c) (HL1.out.below h) n s e hm3).mono fun r w'' ⟨v, he, h1, h2⟩ => show GivesB w' (nearV n l s e) r w'' by rw [he]; exact givesB_of h1 h2)
    have HFA := Lib.hid (fun w' (h : Below w1.heap.size w1 w') => (far_any (c := c) (HL1.out.below h) n s e d hm3).mono fun r w'' ⟨v, he, h1, h2⟩ => show GivesB w' (farV n l s e d) r w'' by rw [he]; exact givesB_of h1 h2)
    have HRF := Lib.hid (fun w' (h : Below w1.heap.size w1 w') => (rfar_any (c := c) (HL1.out.below h) n s e d hm3).mono fun r w'' ⟨v, he, h1, h2⟩ => show GivesB w' (farV n l s e d) r w'' by rw [he]; exact givesB_of h1 h2)
    have HPA := Lib.hid (fun w' (h : Below w1.heap.size w1 w') => (after_any (c := c) (HL1.out.below h) n s e d hm3).mono fun r w'' ⟨v, he, h1, h2⟩ => show GivesI w' (afterV n l s e d) r w'' by rw [he]; exact givesI_of h1 h2)
    have HRP := Lib.hid (fun w' (h : Below w1.heap.size w1 w') => (rafter_any (c := c) (HL1.out.below h) n s e d hm3).mono fun r w'' ⟨v, he, h1, h2⟩ => show GivesI w' (afterV n l s e d) r w'' by rw [he]; exact givesI_of h1 h2)
    have L1 := Lib.hid (nearV_few n l s e)
    have L2 := Lib.hid (farV_few n l s e d)
    have L3 := Lib.hid (afterV_few n l s e d)
    have HBF := Lib.hid (fun w' (h : Below w1.heap.size w1 w') => HW1.out.trans (h.mono HW1.out.size))
    clear HBG1 HL1 HW1 hm
    generalize nearV n l s e = nv at HNE HRN L1
    generalize farV n l s e d = fv at HFA HRF L2
    generalize afterV n l s e d = pv at HPA HRP L3
    go_wp2_with fail
    simp only [List.append]
    go_region_held3 (fun w' => Below w1.heap.size w1 w' ∧ w'.cell? ⟨bx, 0, none⟩ = some (.int .i64 n) ∧ w'.cell? ⟨bx, 1, none⟩ = some (.slice A m c) ∧ w'.cell? ⟨bx, 2, none⟩ = some (.int .i64 s) ∧ w'.cell? ⟨bx, 3, none⟩ = some (.int .i64 e) ∧ w'.cell? ⟨bx, 4, none⟩ = some (.int .i64 d))
      (first | assumption | exact HC.out _ (by assumption) | exact HC.out _ (Below.refl _ _).drew)
      (first
        | (go_at_call 31; (with_reducible refine (HNE.out _ (And.left (by assumption))).mono ?_); rintro r wA ⟨A1, c1, rfl, hrD, hbA⟩; have HRD1 := Lib.hid hrD; clear hrD; have hchA := below_step (And.left (by assumption)) hbA)
        | (go_at_call 32; (with_reducible refine (HRN.out _ (And.left (by assumption))).mono ?_); rintro r wA ⟨A2, c2, rfl, hrR, hbA⟩; have HRD2 := Lib.hid (HRD1.out.below hbA); have HRR := Lib.hid hrR; clear hrR; have hchA := below_step (And.left (by assumption)) hbA)
        | (go_at_call 30; (with_reducible refine (bools_any HRD2.out HRR.out (Nat.le_trans L1.out (by decide)) (Nat.le_trans L1.out (by decide)) true (decide_eq_true rfl)).mono ?_); rintro r wA ⟨rfl, hbA⟩; have hchA := below_step (And.left (by assumption)) hbA)
        | (go_at_call 33; (with_reducible refine (HFA.out _ (And.left (by assumption))).mono ?_); rintro r wA ⟨A3, c3, rfl, hrD, hbA⟩; have HRN1 := Lib.hid hrD; clear hrD; have hchA := below_step (And.left (by assumption)) hbA)
        | (go_at_call 34; (with_reducible refine (HRF.out _ (And.left (by assumption))).mono ?_); rintro r wA ⟨A4, c4, rfl, hrR, hbA⟩; have HRN2 := Lib.hid (HRN1.out.below hbA); have HRNR := Lib.hid hrR; clear hrR; have hchA := below_step (And.left (by assumption)) hbA)
        | (go_at_call 30; (with_reducible refine (bools_any HRN2.out HRNR.out (Nat.le_trans L2.out (by decide)) (Nat.le_trans L2.out (by decide)) true (decide_eq_true rfl)).mono ?_); rintro r wA ⟨rfl, hbA⟩; have hchA := below_step (And.left (by assumption)) hbA)
        | (go_at_call 35; (with_reducible refine (HPA.out _ (And.left (by assumption))).mono ?_); rintro r wA ⟨A5, c5, rfl, hrD, hbA⟩; have HRP1 := Lib.hid hrD; clear hrD; have hchA := below_step (And.left (by assumption)) hbA)
        | (go_at_call 36; (with_reducible refine (HRP.out _ (And.left (by assumption))).mono ?_); rintro r wA ⟨A6, c6, rfl, hrR, hbA⟩; have HRP2 := Lib.hid (HRP1.out.below hbA); have HRPR := Lib.hid hrR; clear hrR; have hchA := below_step (And.left (by assumption)) hbA)
        | (go_at_call 15; (with_reducible refine (ints_any HRP2.out HRPR.out (Nat.le_trans L3.out (by decide)) (Nat.le_trans L3.out (by decide)) true (decide_eq_true rfl)).mono ?_); rintro r wA ⟨rfl, hbA⟩; have hchA := below_step (And.left (by assumption)) hbA))
    all_goals
      go_wp2
      go_ret
      exact ⟨rfl, by have := HBX.out; subst this; exact HBF.out _ hchA⟩
  · have hm2 : (m : Int) > 30 := by omega
    go_wp2_with fail
    go_ret
    exact ⟨rfl, by have := HBX.out; subst this; exact HW1.out⟩
end Go.Proofs.Ytmdcfiejkbhgpaa
