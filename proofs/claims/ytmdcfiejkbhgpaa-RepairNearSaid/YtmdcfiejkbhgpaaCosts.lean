/-
  The law SpfCosts, walked.
-/
import Derived.Test.YtmdcfiejkbhgpaaTells
namespace Go.Proofs.Ytmdcfiejkbhgpaa
open Go.RowKit

/-- the call gives a row that reads as these links -/
def GivesL (w : World) (xs : List Lk) (e : Ending) (w' : World) : Prop := ∃ A c, e = .returned (.slice A xs.length c) ∧ Rd lkc 3 w' A xs.length xs ∧ Below w.heap.size w w'
theorem givesL_of {w w' : World} {v : Value} {xs : List Lk} (h : LksAt w' w.heap.size v xs) (hb : Below w.heap.size w w') : GivesL w xs (.returned v) w' := by
  obtain ⟨A, c, rfl, hr⟩ := h.rd
  exact ⟨A, c, rfl, hr, hb⟩
theorem withoutG_len (l : List Lk) (a b : Int) : (withoutG l a b).length ≤ l.length := List.length_filter_le _ _
theorem same_any {w : World} {A E : Option Addr} {m k c d : Nat} {a b : List Lk} (ha : Rd lkc 3 w A m a) (hb : Rd lkc 3 w E k b) (hm : m ≤ 1000000) (hk : k ≤ 1000000) (r : Bool) (hr : decide (a = b) = r) :
    Calls Try.prog 24 #[.slice A m c, .slice E k d] w fun e w' => e = .returned (.bool r) ∧ Below w.heap.size w w' := by
  subst hr
  exact rsame_any ha hb hm hk
theorem small_snoc {l : List Lk} {i : Nat} {x : Lk} (h : Small (l.take i)) (hx : l[i]? = some x) (hc : -1099511627776 ≤ x.c ∧ x.c ≤ 1099511627776) : Small (l.take (i + 1)) := by
  intro y hy
  rw [List.take_add_one, hx] at hy
  rcases List.mem_append.1 hy with h1 | h1
  · exact h y h1
  · simp at h1
    subst h1
    exact hc

set_option maxRecDepth 100000 in
set_option maxHeartbeats 8000000 in
theorem costs_any {W : World} {A E : Option Addr} {m c k d : Nat} {l : List Lk} {p : List Int} (hr : Rd lkc 3 W A m l) (_hmx : m ≤ maxLen) (n s t a b : Int) (hp : Rd intc 1 W E k p) (_hkx : k ≤ maxLen) (hkd : k ≤ d) :
    Calls Try.prog 4 #[.agg #[.int .i64 n, .slice A m c, .int .i64 s, .int .i64 t, .int .i64 a, .int .i64 b], .slice E k d] W fun e w' => e = .returned (.bool true) ∧ Below W.heap.size W w' := by
  have HL := Lib.hid hr
  have HP := Lib.hid hp
  have HM := Lib.hid hr.1
  have HA := Lib.hid (awake_any (W.alloc (.cells (gcs n A m c s t a b) 24)))
  clear hr hp _hmx _hkx
  go_enter Try.func4, Try.ntmps4
  go_wp2_with fail
  refine (HA.out).mono ?_
  rintro e w1 ⟨rfl, hb1⟩
  have hal := below_al1 W (.cells (gcs n A m c s t a b) 24)
  have HBG1 := Lib.hid (show BoxG w1 W.heap.size n A m c s t a b from BoxG.below (heap_alloc_new _ _) hb1)
  have HW1 := Lib.hid (hal.trans (hb1.mono hal.size))
  have HL1 := Lib.hid (HL.out.below HW1.out)
  have HP1 := Lib.hid (HP.out.below HW1.out)
  generalize hbx : W.heap.size = bx at HBG1 ⊢
  have HBX := Lib.hid hbx
  clear hbx hb1 hal HL HA HP
  obtain ⟨p0, p1, p2, p3, p4, p5, p6⟩ := HBG1.out.cells
  by_cases hm : m ≤ 30
  · have hm2 : decide ((m : Int) > 30) = false := decide_eq_false (by omega)
    by_cases hk : k ≤ 30
    · have hk2 : decide ((k : Int) > 30) = false := decide_eq_false (by omega)
      have HS0 := Lib.hid (show Small (l.take 0) by intro x hx; simp at hx)
      go_wp2_with fail
      go_loopw [6] (fun v wr => ∃ i : Nat, i ≤ m ∧ v = .int .i64 i ∧ Small (l.take i) ∧ wr = w1) (fun v _ => m - (intOf v).toNat)
      case atStart => exact ⟨0, Nat.zero_le _, rfl, HS0.out, rfl⟩
      case round =>
        obtain ⟨i, hi, rfl, hsm, rfl⟩ := hrel
        have HSM := Lib.hid hsm
        clear hsm HS0
        have hi0 : (0 : Int) ≤ i := by omega
        by_cases hlt : i < m
        · have hi1 : (i : Int) < m := by omega
          obtain ⟨x, b1, off, hx, rfl, hcell⟩ := HL1.out.at_ hlt
          have c2 := hcell 2 _ rfl
          have HX := Lib.hid hx
          clear hx hcell
          obtain ⟨xf, xt, xc⟩ := x
          simp only at c2
          by_cases h1 : xc > 1099511627776
          · have d1 : decide (xc > 1099511627776) = true := decide_eq_true h1
            go_wp2_with fail
            go_ret
            exact ⟨rfl, by have := HBX.out; subst this; exact HW1.out⟩
          · have d1 : decide (xc > 1099511627776) = false := decide_eq_false h1
            by_cases h2 : xc < -1099511627776
            · have d2 : decide (xc < -1099511627776) = true := decide_eq_true h2
              go_wp2_with fail
              go_ret
              exact ⟨rfl, by have := HBX.out; subst this; exact HW1.out⟩
            · have d2 : decide (xc < -1099511627776) = false := decide_eq_false h2
              have HN := Lib.hid (small_snoc HSM.out HX.out ⟨by simp only; omega, by simp only; omega⟩)
              clear h1 h2
              go_wp2_with fail
              go_roundw
              case rel => exact ⟨i + 1, by omega, by go_num, HN.out, trivial⟩
              case measure => simp [intOf]; omega
        · obtain rfl : i = m := by omega
          have him2 : ¬ (i : Int) < i := by omega
          have HSL := Lib.hid (show Small l by have := HSM.out; rwa [List.take_of_length_le (Nat.le_of_eq HM.out)] at this)
          have HCV := Lib.hid (show costV l p = .tuple #[.int .i64 ((costG l p).getD 0), .bool (costG l p).isSome] from rfl)
          have HCO := Lib.hid (costw_any (c := c) (d := d) HL1.out HP1.out HSL.out (by omega) (by omega) hkd)
          have HRC := Lib.hid (fun w2 (h : Below wr.heap.size wr w2) => rcostw_any (c := c) (d := d) (HL1.out.below h) (HP1.out.below h) HSL.out (by omega) (by omega))
          rw [HCV.out] at HCO HRC
          clear HCV HSM
          generalize (costG l p).getD 0 = cx at HCO HRC
          generalize (costG l p).isSome = cy at HCO HRC
          go_wp2_with fail
          refine (HCO.out).mono ?_
          rintro e w2 ⟨rfl, hb2⟩
          have HBG2 := Lib.hid (HBG1.out.below hb2)
          have HB2 := Lib.hid hb2
          clear p0 p1 p2 p3 p4 p5 p6 HBG1 HCO hb2
          obtain ⟨p0, p1, p2, p3, p4, p5, p6⟩ := HBG2.out.cells
          go_wp2_with fail
          refine (HRC.out _ HB2.out).mono ?_
          rintro e w3 ⟨rfl, hb3⟩
          have HBG3 := Lib.hid (HBG2.out.below hb3)
          have HB3 := Lib.hid (HB2.out.trans (hb3.mono HB2.out.size))
          have HL3 := Lib.hid (HL1.out.below HB3.out)
          have HW3 := Lib.hid (HW1.out.trans (HB3.out.mono HW1.out.size))
          clear p0 p1 p2 p3 p4 p5 p6 HBG2 HB2 hb3 HRC HP1 HL1 HW1 HB3
          have HC := Lib.hid (fun w' (h : Below w3.heap.size w3 w') => show Below w3.heap.size w3 w' ∧ w'.cell? ⟨bx, 0, none⟩ = some (.int .i64 n) ∧ w'.cell? ⟨bx, 1, none⟩ = some (.slice A i c) ∧ w'.cell? ⟨bx, 2, none⟩ = some (.int .i64 s) ∧ w'.cell? ⟨bx, 3, none⟩ = some (.int .i64 t) ∧ w'.cell? ⟨bx, 4, none⟩ = some (.int .i64 a) ∧ w'.cell? ⟨bx, 5, none⟩ = some (.int .i64 b) from by
            obtain ⟨-, q0, q1, q2, q3, q4, q5⟩ := (HBG3.out.below h).cells
            exact ⟨h, q0, q1, q2, q3, q4, q5⟩)
          have HWI := Lib.hid (fun w' (h : Below w3.heap.size w3 w') => (without_any (c := c) (HL3.out.below h) a b (by omega)).mono fun e w'' ⟨v, he, h1, h2⟩ => show GivesL w' (withoutG l a b) e w'' by rw [he]; exact givesL_of h1 h2)
          have HRW := Lib.hid (fun w' (h : Below w3.heap.size w3 w') => (rwithout_any (c := c) (HL3.out.below h) a b (by omega)).mono fun e w'' ⟨v, he, h1, h2⟩ => show GivesL w' (withoutG l a b) e w'' by rw [he]; exact givesL_of h1 h2)
          have HUS := Lib.hid (fun w' (h : Below w3.heap.size w3 w') => (Uses_any (c := c) (HL3.out.below h) n s t a b (by omega)).mono fun e w'' (he : e = _ ∧ Below w'.heap.size w' w'') => And.intro he.1 (below_step h he.2))
          have HRU := Lib.hid (fun w' (h : Below w3.heap.size w3 w') => (ruses_any (c := c) (HL3.out.below h) n s t a b (by omega)).mono fun e w'' (he : e = _ ∧ Below w'.heap.size w' w'') => And.intro he.1 (below_step h he.2))
          have L1 := Lib.hid (show (withoutG l a b).length ≤ 1000000 by have := withoutG_len l a b; have := HM.out; omega)
          have HBF := Lib.hid (fun w' (h : Below w3.heap.size w3 w') => HW3.out.trans (h.mono HW3.out.size))
          clear HBG3 HL3 HW3 hm hk hi hlt him2 hi0
          generalize withoutG l a b = wl at HWI HRW L1
          generalize usesG n l s t a b = ub at HUS HRU
          have e1 : (cx == cx) = true := by simp
          have e2 : (cy == cy) = true := by simp
          have e3 : (ub == ub) = true := by simp
          go_wp2_with fail
          go_region_held3 (fun w' => Below w3.heap.size w3 w' ∧ w'.cell? ⟨bx, 0, none⟩ = some (.int .i64 n) ∧ w'.cell? ⟨bx, 1, none⟩ = some (.slice A i c) ∧ w'.cell? ⟨bx, 2, none⟩ = some (.int .i64 s) ∧ w'.cell? ⟨bx, 3, none⟩ = some (.int .i64 t) ∧ w'.cell? ⟨bx, 4, none⟩ = some (.int .i64 a) ∧ w'.cell? ⟨bx, 5, none⟩ = some (.int .i64 b))
            (first | assumption | exact HC.out _ (by assumption) | exact HC.out _ (Below.refl _ _).drew)
            (first
              | (go_at_call 25; (with_reducible refine (HWI.out _ (And.left (by assumption))).mono ?_); rintro e wA ⟨A1, c1, rfl, hrD, hbA⟩; have HRD1 := Lib.hid hrD; clear hrD; have hchA := below_step (And.left (by assumption)) hbA)
              | (go_at_call 26; (with_reducible refine (HRW.out _ (And.left (by assumption))).mono ?_); rintro e wA ⟨A2, c2, rfl, hrR, hbA⟩; have HRD2 := Lib.hid (HRD1.out.below hbA); have HRR := Lib.hid hrR; clear hrR; have hchA := below_step (And.left (by assumption)) hbA)
              | (go_at_call 24; (with_reducible refine (same_any HRD2.out HRR.out L1.out L1.out true (decide_eq_true rfl)).mono ?_); rintro e wA ⟨rfl, hbA⟩; have hchA := below_step (And.left (by assumption)) hbA)
              | (go_at_call 27; (with_reducible refine (HUS.out _ (And.left (by assumption))).mono ?_); rintro e wA ⟨rfl, hchA⟩)
              | (go_at_call 28; (with_reducible refine (HRU.out _ (And.left (by assumption))).mono ?_); rintro e wA ⟨rfl, hchA⟩))
          all_goals
            go_wp2
            go_ret
            exact ⟨rfl, by have := HBX.out; subst this; exact HBF.out _ hchA⟩
    · have hk2 : decide ((k : Int) > 30) = true := decide_eq_true (by omega)
      go_wp2_with fail
      go_ret
      exact ⟨rfl, by have := HBX.out; subst this; exact HW1.out⟩
  · have hm2 : decide ((m : Int) > 30) = true := decide_eq_true (by omega)
    go_wp2_with fail
    go_ret
    exact ⟨rfl, by have := HBX.out; subst this; exact HW1.out⟩
end Go.Proofs.Ytmdcfiejkbhgpaa
