/-
  The law SpfTells, walked.
-/
import Derived.Test.YtmdcfiejkbhgpaaAwake
import Derived.Test.YtmdcfiejkbhgpaaREq
namespace Go.Proofs.Ytmdcfiejkbhgpaa
open Go.RowKit

/-- a graph of the laws -/
def gv (n : Int) (A : Option Addr) (m c : Nat) (s t a b : Int) : Value := .agg #[.int .i64 n, .slice A m c, .int .i64 s, .int .i64 t, .int .i64 a, .int .i64 b]
def gcs (n : Int) (A : Option Addr) (m c : Nat) (s t a b : Int) : Array Value := #[.int .i64 n, .slice A m c, .int .i64 s, .int .i64 t, .int .i64 a, .int .i64 b]
/-- block p holds a graph -/
def BoxG (W : World) (p : Nat) (n : Int) (A : Option Addr) (m c : Nat) (s t a b : Int) : Prop := W.heap[p]? = some (.cells (gcs n A m c s t a b) 24 (0, 0))
section
variable {W W' : World} {p : Nat} {n : Int} {A : Option Addr} {m c : Nat} {s t a b : Int}
theorem BoxG.cells (h : BoxG W p n A m c s t a b) : p < W.heap.size ∧ W.cell? ⟨p, 0, none⟩ = some (.int .i64 n) ∧ W.cell? ⟨p, 1, none⟩ = some (.slice A m c) ∧ W.cell? ⟨p, 2, none⟩ = some (.int .i64 s) ∧ W.cell? ⟨p, 3, none⟩ = some (.int .i64 t) ∧ W.cell? ⟨p, 4, none⟩ = some (.int .i64 a) ∧ W.cell? ⟨p, 5, none⟩ = some (.int .i64 b) := by
  have h' : W.heap[p]? = _ := h
  refine ⟨(Array.getElem?_eq_some_iff.1 h').1, ?_, ?_, ?_, ?_, ?_, ?_⟩ <;> (rw [cell_of_row _ _ _ _ _ (0, 0) h']; rfl)
theorem BoxG.below (h : BoxG W p n A m c s t a b) (hb : Below W.heap.size W W') : BoxG W' p n A m c s t a b := (hb.block p h.cells.1).trans h
end
/-- two calls' rows are the same -/
theorem GivesI.row {w w' : World} {xs : List Int} {e : Ending} (h : GivesI w xs e w') : ∃ A c, e = .returned (.slice A xs.length c) ∧ Rd intc 1 w' A xs.length xs ∧ Below w.heap.size w w' := h
theorem nextsU_len (n : Int) (l : List Lk) (s t : Int) : (nextsU n l s t).length ≤ n.toNat := by
  have h := List.length_filter_le (nextU n l s t) (nodes n)
  rw [nodes_len] at h
  exact h
theorem nextsU_few (n : Int) (l : List Lk) (s t : Int) : (nextsU n l s t).length ≤ 64 := by
  cases hg : (rightG n l s && rightG n l t) with
  | false => rw [nextsU_no hg]; simp
  | true =>
    rw [Bool.and_eq_true] at hg
    have h1 := (rightG_ok.1 hg.1).1.n64
    have h2 := nextsU_len n l s t
    omega
theorem distV_few (n : Int) (l : List Lk) (s : Int) : (distV n l s).length ≤ 64 := by
  unfold distV
  split
  · rename_i hg
    have h1 := (rightG_ok.1 hg).1.n64
    rw [List.length_map, nodes_len]
    omega
  · simp
theorem pathG_few (n : Int) (l : List Lk) (s t : Int) : (pathG n l s t).length ≤ 64 := by
  unfold pathG
  split
  · rename_i hg
    obtain ⟨h1, h2, h3⟩ := rightG_ok.1 hg.1
    by_cases h0 : D l s t < 0
    · rw [pathL_no h0]; simp
    · have := path_len h1 (a := s) (t := t) (by omega) ⟨h2, h3⟩
      have := h1.n64
      omega
  · simp

set_option maxRecDepth 100000 in
set_option maxHeartbeats 8000000 in
theorem tells_any {W : World} {A : Option Addr} {m c : Nat} {l : List Lk} (hr : Rd lkc 3 W A m l) (n s t a b : Int) :
    Calls Try.prog 3 #[.agg #[.int .i64 n, .slice A m c, .int .i64 s, .int .i64 t, .int .i64 a, .int .i64 b]] W fun e w' => e = .returned (.bool true) ∧ Below W.heap.size W w' := by
  have HL := Lib.hid hr
  have HA := Lib.hid (awake_any (W.alloc (.cells (gcs n A m c s t a b) 24)))
  clear hr
  go_enter Try.func3, Try.ntmps3
  go_wp2_with fail
  refine (HA.out).mono ?_
  rintro e w1 ⟨rfl, hb1⟩
  have hal := below_al1 W (.cells (gcs n A m c s t a b) 24)
  have HBG1 := Lib.hid (show BoxG w1 W.heap.size n A m c s t a b from BoxG.below (heap_alloc_new _ _) hb1)
  have HW1 := Lib.hid (hal.trans (hb1.mono hal.size))
  have HL1 := Lib.hid (HL.out.below HW1.out)
  generalize hbx : W.heap.size = bx at HBG1 ⊢
  have HBX := Lib.hid hbx
  clear hbx hb1 hal HL HA
  obtain ⟨p0, p1, p2, p3, p4, -⟩ := HBG1.out.cells
  by_cases hm : m ≤ 30
  · have hm2 : ¬ (m : Int) > 30 := by omega
    have hm3 : m ≤ 1000 := by omega
    have HC := Lib.hid (fun w' (h : Below w1.heap.size w1 w') => show Below w1.heap.size w1 w' ∧ w'.cell? ⟨bx, 0, none⟩ = some (.int .i64 n) ∧ w'.cell? ⟨bx, 1, none⟩ = some (.slice A m c) ∧ w'.cell? ⟨bx, 2, none⟩ = some (.int .i64 s) ∧ w'.cell? ⟨bx, 3, none⟩ = some (.int .i64 t) from by
      obtain ⟨-, q0, q1, q2, q3, -⟩ := (HBG1.out.below h).cells
      exact ⟨h, q0, q1, q2, q3⟩)
    have HCK := Lib.hid (fun w' (h : Below w1.heap.size w1 w') => (check_any (c := c) (HL1.out.below h) n hm3).mono fun e w'' (he : e = _ ∧ Below w'.heap.size w' w'') => And.intro he.1 (below_step h he.2))
    have HRC := Lib.hid (fun w' (h : Below w1.heap.size w1 w') => (rcheck_any (c := c) (HL1.out.below h) n hm3).mono fun e w'' (he : e = _ ∧ Below w'.heap.size w' w'') => And.intro he.1 (below_step h he.2))
    have HDI := Lib.hid (fun w' (h : Below w1.heap.size w1 w') => (Dist_any (c := c) (HL1.out.below h) n s hm3).mono fun e w'' he => givesI_dist he)
    have HRD := Lib.hid (fun w' (h : Below w1.heap.size w1 w') => (rdist_any (c := c) (HL1.out.below h) n s hm3).mono fun e w'' he => givesI_dist he)
    have HNE := Lib.hid (fun w' (h : Below w1.heap.size w1 w') => (Next_any (c := c) (HL1.out.below h) n s t hm3).mono fun e w'' ⟨v, he, h1, h2⟩ => show GivesI w' (nextsU n l s t) e w'' by rw [he]; exact givesI_of h1 h2)
    have HRN := Lib.hid (fun w' (h : Below w1.heap.size w1 w') => (rnext_any (c := c) (HL1.out.below h) n s t hm3).mono fun e w'' ⟨v, he, h1, h2⟩ => show GivesI w' (nextsU n l s t) e w'' by rw [he]; exact givesI_of h1 h2)
    have HPA := Lib.hid (fun w' (h : Below w1.heap.size w1 w') => (path_any (c := c) (HL1.out.below h) n s t hm3).mono fun e w'' ⟨v, he, h1, h2⟩ => show GivesI w' (pathG n l s t) e w'' by rw [he]; exact givesI_of h1 h2)
    have HRP := Lib.hid (fun w' (h : Below w1.heap.size w1 w') => (rpath_any (c := c) (HL1.out.below h) n s t hm3).mono fun e w'' ⟨v, he, h1, h2⟩ => show GivesI w' (pathG n l s t) e w'' by rw [he]; exact givesI_of h1 h2)
    have L1 := Lib.hid (distV_few n l s)
    have L2 := Lib.hid (nextsU_few n l s t)
    have L3 := Lib.hid (pathG_few n l s t)
    have HBF := Lib.hid (fun w' (h : Below w1.heap.size w1 w') => HW1.out.trans (h.mono HW1.out.size))
    clear HBG1 HL1 HW1 p4 hm
    generalize chkG n l = ck at HCK HRC
    generalize distV n l s = dv at HDI HRD L1
    generalize nextsU n l s t = nv at HNE HRN L2
    generalize pathG n l s t = pv at HPA HRP L3
    have e1 : (ck == ck) = true := by simp
    go_wp2_with fail
    simp only [List.append]
    go_region_held3 (fun w' => Below w1.heap.size w1 w' ∧ w'.cell? ⟨bx, 0, none⟩ = some (.int .i64 n) ∧ w'.cell? ⟨bx, 1, none⟩ = some (.slice A m c) ∧ w'.cell? ⟨bx, 2, none⟩ = some (.int .i64 s) ∧ w'.cell? ⟨bx, 3, none⟩ = some (.int .i64 t))
      (first | assumption | exact HC.out _ (by assumption) | exact HC.out _ (Below.refl _ _).drew)
      (first
        | (go_at_call 13; (with_reducible refine (HCK.out _ (And.left (by assumption))).mono ?_); rintro e wA ⟨rfl, hchA⟩)
        | (go_at_call 14; (with_reducible refine (HRC.out _ (And.left (by assumption))).mono ?_); rintro e wA ⟨rfl, hchA⟩)
        | (go_at_call 16; (with_reducible refine (HDI.out _ (And.left (by assumption))).mono ?_); rintro e wA ⟨A1, c1, rfl, hrD, hbA⟩; have HRD1 := Lib.hid hrD; clear hrD; have hchA := below_step (And.left (by assumption)) hbA)
        | (go_at_call 17; (with_reducible refine (HRD.out _ (And.left (by assumption))).mono ?_); rintro e wA ⟨A2, c2, rfl, hrR, hbA⟩; have HRD2 := Lib.hid (HRD1.out.below hbA); have HRR := Lib.hid hrR; clear hrR; have hchA := below_step (And.left (by assumption)) hbA)
        | (go_at_call 15; (with_reducible refine (ints_any HRD2.out HRR.out (Nat.le_trans L1.out (by decide)) (Nat.le_trans L1.out (by decide)) true (decide_eq_true rfl)).mono ?_); rintro e wA ⟨rfl, hbA⟩; have hchA := below_step (And.left (by assumption)) hbA)
        | (go_at_call 18; (with_reducible refine (HNE.out _ (And.left (by assumption))).mono ?_); rintro e wA ⟨A3, c3, rfl, hrD, hbA⟩; have HRN1 := Lib.hid hrD; clear hrD; have hchA := below_step (And.left (by assumption)) hbA)
        | (go_at_call 19; (with_reducible refine (HRN.out _ (And.left (by assumption))).mono ?_); rintro e wA ⟨A4, c4, rfl, hrR, hbA⟩; have HRN2 := Lib.hid (HRN1.out.below hbA); have HRNR := Lib.hid hrR; clear hrR; have hchA := below_step (And.left (by assumption)) hbA)
        | (go_at_call 15; (with_reducible refine (ints_any HRN2.out HRNR.out (Nat.le_trans L2.out (by decide)) (Nat.le_trans L2.out (by decide)) true (decide_eq_true rfl)).mono ?_); rintro e wA ⟨rfl, hbA⟩; have hchA := below_step (And.left (by assumption)) hbA)
        | (go_at_call 20; (with_reducible refine (HPA.out _ (And.left (by assumption))).mono ?_); rintro e wA ⟨A5, c5, rfl, hrD, hbA⟩; have HRP1 := Lib.hid hrD; clear hrD; have hchA := below_step (And.left (by assumption)) hbA)
        | (go_at_call 21; (with_reducible refine (HRP.out _ (And.left (by assumption))).mono ?_); rintro e wA ⟨A6, c6, rfl, hrR, hbA⟩; have HRP2 := Lib.hid (HRP1.out.below hbA); have HRPR := Lib.hid hrR; clear hrR; have hchA := below_step (And.left (by assumption)) hbA)
        | (go_at_call 15; (with_reducible refine (ints_any HRP2.out HRPR.out (Nat.le_trans L3.out (by decide)) (Nat.le_trans L3.out (by decide)) true (decide_eq_true rfl)).mono ?_); rintro e wA ⟨rfl, hbA⟩; have hchA := below_step (And.left (by assumption)) hbA))
    all_goals
      go_wp2
      go_ret
      exact ⟨rfl, by have := HBX.out; subst this; exact HBF.out _ hchA⟩
  · have hm2 : (m : Int) > 30 := by omega
    go_wp2_with fail
    go_ret
    exact ⟨rfl, by have := HBX.out; subst this; exact HW1.out⟩
end Go.Proofs.Ytmdcfiejkbhgpaa
