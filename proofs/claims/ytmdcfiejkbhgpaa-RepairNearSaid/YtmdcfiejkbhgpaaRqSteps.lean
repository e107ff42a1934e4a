/-
  How long steps, and the nodes that they lead over, may be.
-/
import Derived.Test.YtmdcfiejkbhgpaaRqTells
namespace Go.Proofs.Ytmdcfiejkbhgpaa
open Go.RowKit

/-- the call gives a row that reads as these steps -/
def GivesS (w : World) (xs : List St) (e : Ending) (w' : World) : Prop := ∃ A c, e = .returned (.slice A xs.length c) ∧ Rd stc 3 w' A xs.length xs ∧ Below w.heap.size w w'
theorem givesS_of {ty : TypeId} {w w' : World} {v : Value} {xs : List St} (h : StsAt ty w' w.heap.size v xs) (hb : Below w.heap.size w w') : GivesS w xs (.returned v) w' := by
  obtain ⟨A, c, rfl, hr⟩ := h.rd
  exact ⟨A, c, rfl, hr, hb⟩
theorem sames_any {w : World} {A E : Option Addr} {m k c d : Nat} {a b : List St} (ha : Rd stc 3 w A m a) (hb : Rd stc 3 w E k b) (hm : m ≤ 1000000) (hk : k ≤ 1000000) (r : Bool) (hr : decide (a = b) = r) :
    Calls Try.prog 39 #[.slice A m c, .slice E k d] w fun e w' => e = .returned (.bool r) ∧ Below w.heap.size w w' := by
  subst hr
  exact same28_any ha hb hm hk
theorem stepsL_le (cl : Int → Int → Bool) (way : List Int) (d : Int) : ∀ f i, (stepsL cl way d f i).length ≤ f
  | 0, _ => Nat.le_refl _
  | f + 1, i => by
    unfold stepsL
    split
    · simp
    · have := stepsL_le cl way d f (hopK cl way i).2
      simp only [List.length_cons]
      omega
theorem stepsR_few (n : Int) (l : List Lk) (s e d : Int) : (stepsR n l s e d).length ≤ 64 := by
  unfold stepsR
  split
  · simp
  · have h1 := stepsL_le (cleanV n l s e) (afterV n l s e d) d (afterV n l s e d).length 0
    have h2 := afterV_few n l s e d
    unfold stepsV
    omega
theorem walkV_few (n : Int) (l : List Lk) (s d : Int) (xs : List St) : (walkV n l s d xs).length ≤ 65 + 64 * xs.length := by
  unfold walkV
  split
  · unfold walkO
    cases h : walkT n l s xs with
    | none => simp
    | some z =>
      have h1 := walkF_len _ _ _ h
      show (match stepW n l z ⟨false, z.2, d⟩ with | some z => z.1 | none => []).length ≤ _
      cases h2 : stepW n l z ⟨false, z.2, d⟩ with
      | none => simp
      | some y =>
        have h3 := stepW_len h2
        simp only [List.length_cons, List.length_nil] at h1
        simp only
        omega
  · simp
end Go.Proofs.Ytmdcfiejkbhgpaa
/-
  The law RepairSteps, walked.
-/
namespace Go.Proofs.Ytmdcfiejkbhgpaa
open Go.RowKit

set_option maxRecDepth 100000 in
set_option maxHeartbeats 8000000 in
theorem repsteps_any {W : World} {A E : Option Addr} {m c k q : Nat} {l : List Lk} {raw : List St} (hr : Rd lkc 3 W A m l) (n s e d : Int) (hx : Rd stc 3 W E k raw) :
    Calls Try.prog 9 #[.agg #[.int .i64 n, .slice A m c, .int .i64 s, .int .i64 e, .int .i64 d], .slice E k q] W fun r w' => r = .returned (.bool true) ∧ Below W.heap.size W w' := by
  have HL := Lib.hid hr
  have HX := Lib.hid hx
  have HXL := Lib.hid hx.1
  have HA := Lib.hid (awaker_any (W.alloc (.cells (gcr n A m c s e d) 42)))
  clear hr hx
  go_enter Try.func9, Try.ntmps9
  go_wp2_with fail
  refine (HA.out).mono ?_
  rintro r w1 ⟨rfl, hb1⟩
  have hal := below_al1 W (.cells (gcr n A m c s e d) 42)
  have HBG1 := Lib.hid (show BoxQ w1 W.heap.size n A m c s e d from BoxQ.below (heap_alloc_new _ _) hb1)
  have HW1 := Lib.hid (hal.trans (hb1.mono hal.size))
  have HL1 := Lib.hid (HL.out.below HW1.out)
  have HX1 := Lib.hid (HX.out.below HW1.out)
  generalize hbx : W.heap.size = bx at HBG1 ⊢
  have HBX := Lib.hid hbx
  clear hbx hb1 hal HL HA HX
  obtain ⟨p0, p1, p2, p3, p4, p5⟩ := HBG1.out.cells
  by_cases hm : m ≤ 30
  · have hm2 : decide ((m : Int) > 30) = false := decide_eq_false (by omega)
    have hm3 : m ≤ 1000 := by omega
    by_cases hk : k ≤ 10
    · have hk2 : decide ((k : Int) > 10) = false := decide_eq_false (by omega)
      have hk3 : k ≤ 1000 := by omega
      have HST := Lib.hid (steps_any (c := c) HL1.out n s e d hm3)
      have HRS := Lib.hid (fun w' (h : Below w1.heap.size w1 w') => rsteps_any (c := c) (HL1.out.below h) n s e d hm3)
      have L1 := Lib.hid (stepsR_few n l s e d)
      have LW := Lib.hid (fun xs => walkV_few n l s d xs)
      go_wp2_with fail
      refine (HST.out).mono ?_
      rintro r w2 ⟨v, rfl, hv, hb2⟩
      obtain ⟨A1, c1, rfl, hr1⟩ := hv.rd
      have HBG2 := Lib.hid (HBG1.out.below hb2)
      have HRS2 := Lib.hid (HRS.out w2 hb2)
      have HS2 := Lib.hid hr1
      have HB2 := Lib.hid hb2
      clear p0 p1 p2 p3 p4 p5 hv hb2 hr1 HST HRS HBG1
      obtain ⟨p0, p1, p2, p3, p4, p5⟩ := HBG2.out.cells
      generalize stepsR n l s e d = sv at HS2 HRS2 L1 ⊢
      generalize decide (afterV n l s e d ≠ []) = is at HRS2 ⊢
      go_wp2_with fail
      refine (HRS2.out).mono ?_
      rintro r w3 ⟨v, rfl, hv, hb3⟩
      obtain ⟨A2, c2, rfl, hr2⟩ := hv.rd
      have HBG3 := Lib.hid (HBG2.out.below hb3)
      have HB3 := Lib.hid (HB2.out.trans (hb3.mono HB2.out.size))
      have HL3 := Lib.hid (HL1.out.below HB3.out)
      have HX3 := Lib.hid (HX1.out.below HB3.out)
      have HS3 := Lib.hid (HS2.out.below hb3)
      have HT3 := Lib.hid hr2
      have HW3 := Lib.hid (HW1.out.trans (HB3.out.mono HW1.out.size))
      clear p0 p1 p2 p3 p4 p5 hv hb3 hr2 HRS2 HBG2 HB2 HS2 HL1 HX1 HW1 HB3
      obtain ⟨p0, p1, p2, p3, p4, p5⟩ := HBG3.out.cells
      have HC := Lib.hid (fun w' (h : Below w3.heap.size w3 w') => show Below w3.heap.size w3 w' ∧ w'.cell? ⟨bx, 0, none⟩ = some (.int .i64 n) ∧ w'.cell? ⟨bx, 1, none⟩ = some (.slice A m c) ∧ w'.cell? ⟨bx, 2, none⟩ = some (.int .i64 s) ∧ w'.cell? ⟨bx, 4, none⟩ = some (.int .i64 d) from by
        obtain ⟨-, q0, q1, q2, q3, q4⟩ := (HBG3.out.below h).cells
        exact ⟨h, q0, q1, q2, q4⟩)
      have HPL := Lib.hid (fun w' (h : Below w3.heap.size w3 w') => (plain_any (c := c1) (HS3.out.below h) (Nat.le_trans L1.out (by decide))).mono fun r w'' ⟨v, he, h1, h2⟩ => show GivesS w' sv r w'' by rw [he]; exact givesS_of h1 h2)
      have HPR := Lib.hid (fun w' (h : Below w3.heap.size w3 w') => (plain_any (c := q) (HX3.out.below h) hk3).mono fun r w'' ⟨v, he, h1, h2⟩ => show GivesS w' raw r w'' by rw [he]; exact givesS_of h1 h2)
      have HWX := Lib.hid (fun w' (h : Below w3.heap.size w3 w') => (walk_any (c := c) (q := c1) (HL3.out.below h) n s d hm3 (HS3.out.below h) (Nat.le_trans L1.out (by decide))).mono fun r w'' ⟨v, he, h1, h2⟩ => show GivesI w' (walkV n l s d sv) r w'' by rw [he]; exact givesI_of h1 h2)
      have HWY := Lib.hid (fun w' (h : Below w3.heap.size w3 w') => (rwalk_any (c := c) (q := c2) (HL3.out.below h) n s d hm3 (HT3.out.below h) (Nat.le_trans L1.out (by decide))).mono fun r w'' ⟨v, he, h1, h2⟩ => show GivesI w' (walkV n l s d sv) r w'' by rw [he]; exact givesI_of h1 h2)
      have HWR := Lib.hid (fun w' (h : Below w3.heap.size w3 w') => (walk_any (c := c) (q := q) (HL3.out.below h) n s d hm3 (HX3.out.below h) hk3).mono fun r w'' ⟨v, he, h1, h2⟩ => show GivesI w' (walkV n l s d raw) r w'' by rw [he]; exact givesI_of h1 h2)
      have HWP := Lib.hid (fun A5 c5 w' (h : Below w3.heap.size w3 w') (hp : Rd stc 3 w' A5 raw.length raw) => (rwalk_any (c := c) (q := c5) (HL3.out.below h) n s d hm3 hp (by have := HXL.out; omega)).mono fun r w'' ⟨v, he, h1, h2⟩ => show GivesI w' (walkV n l s d raw) r w'' by rw [he]; exact givesI_of h1 h2)
      have L2 := Lib.hid (show (walkV n l s d sv).length ≤ 1000000 by have h1 := LW.out sv; have h2 := L1.out; omega)
      have L3 := Lib.hid (show (walkV n l s d raw).length ≤ 1000000 by have h1 := LW.out raw; have h2 := HXL.out; omega)
      have HBF := Lib.hid (fun w' (h : Below w3.heap.size w3 w') => HW3.out.trans (h.mono HW3.out.size))
      generalize walkV n l s d sv = wx at HWX HWY L2
      generalize walkV n l s d raw = wr at HWR HWP L3
      have e1 : (is == is) = true := by simp
      clear HBG3 HL3 HX3 HW3 hm hk p5 p3
      go_upto_region 8 with fail
      go_region_held3 (fun w' => Below w3.heap.size w3 w' ∧ w'.cell? ⟨bx, 0, none⟩ = some (.int .i64 n) ∧ w'.cell? ⟨bx, 1, none⟩ = some (.slice A m c) ∧ w'.cell? ⟨bx, 2, none⟩ = some (.int .i64 s) ∧ w'.cell? ⟨bx, 4, none⟩ = some (.int .i64 d))
        (first | assumption | exact HC.out _ (by assumption) | exact HC.out _ (Below.refl _ _).drew)
        (first
          | (go_at_call 40; (with_reducible refine (HPL.out _ (And.left (by assumption))).mono ?_); rintro r wA ⟨B1, d1, rfl, hrD, hbA⟩; have HPS := Lib.hid hrD; clear hrD; have hchA := below_step (And.left (by assumption)) hbA)
          | (go_at_call 39; (with_reducible refine (sames_any HPS.out (HT3.out.below (And.left (by assumption))) (Nat.le_trans L1.out (by decide)) (Nat.le_trans L1.out (by decide)) true (decide_eq_true rfl)).mono ?_); rintro r wA ⟨rfl, hbA⟩; have hchA := below_step (And.left (by assumption)) hbA)
          | (go_at_call 41; (with_reducible refine (HWX.out _ (And.left (by assumption))).mono ?_); rintro r wA ⟨B2, d2, rfl, hrD, hbA⟩; have HWA := Lib.hid hrD; clear hrD; have hchA := below_step (And.left (by assumption)) hbA)
          | (go_at_call 42; (with_reducible refine (HWY.out _ (And.left (by assumption))).mono ?_); rintro r wA ⟨B3, d3, rfl, hrD, hbA⟩; have HWA2 := Lib.hid (HWA.out.below hbA); have HWB := Lib.hid hrD; clear hrD; have hchA := below_step (And.left (by assumption)) hbA)
          | (go_at_call 15; (with_reducible refine (ints_any HWA2.out HWB.out L2.out L2.out true (decide_eq_true rfl)).mono ?_); rintro r wA ⟨rfl, hbA⟩; have hchA := below_step (And.left (by assumption)) hbA)
          | (go_at_call 41; (with_reducible refine (HWR.out _ (And.left (by assumption))).mono ?_); rintro r wA ⟨B4, d4, rfl, hrD, hbA⟩; have HWC := Lib.hid hrD; clear hrD; have hchA := below_step (And.left (by assumption)) hbA)
          | (go_at_call 40; (with_reducible refine (HPR.out _ (And.left (by assumption))).mono ?_); rintro r wA ⟨B5, d5, rfl, hrD, hbA⟩; have HWC2 := Lib.hid (HWC.out.below hbA); have HPS2 := Lib.hid hrD; clear hrD; have hchA := below_step (And.left (by assumption)) hbA)
          | (go_at_call 42; (with_reducible refine (HWP.out _ _ _ (And.left (by assumption)) HPS2.out).mono ?_); rintro r wA ⟨B6, d6, rfl, hrD, hbA⟩; have HWC3 := Lib.hid (HWC2.out.below hbA); have HWD := Lib.hid hrD; clear hrD; have hchA := below_step (And.left (by assumption)) hbA)
          | (go_at_call 15; (with_reducible refine (ints_any HWC3.out HWD.out L3.out L3.out true (decide_eq_true rfl)).mono ?_); rintro r wA ⟨rfl, hbA⟩; have hchA := below_step (And.left (by assumption)) hbA))
      all_goals
        go_wp2
        go_ret
        exact ⟨rfl, by have := HBX.out; subst this; exact HBF.out _ hchA⟩
    · have hk2 : decide ((k : Int) > 10) = true := decide_eq_true (by omega)
      go_wp2_with fail
      go_ret
      exact ⟨rfl, by have := HBX.out; subst this; exact HW1.out⟩
  · have hm2 : decide ((m : Int) > 30) = true := decide_eq_true (by omega)
    go_wp2_with fail
    go_ret
    exact ⟨rfl, by have := HBX.out; subst this; exact HW1.out⟩
end Go.Proofs.Ytmdcfiejkbhgpaa
