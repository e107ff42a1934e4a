/-
  The law SpfThird, walked. (Printed by genlaws.py.)
-/
import Derived.Test.YtmdcfiejkbhgpaaCosts
namespace Go.Proofs.Ytmdcfiejkbhgpaa
open Go.RowKit

theorem small_ok {n : Int} {l : List Lk} (hg : GOk n l) : Small l := by
  intro x hx
  have := hg.ok x hx
  omega
theorem IntsAt.rdc {w : World} {B : Nat} {v : Value} {l : List Int} (h : IntsAt w B v l) : ∃ A c, v = .slice A l.length c ∧ l.length ≤ c ∧ Rd intc 1 w A l.length l := by
  have h' : w.ownsRow B 3 1 v l.length (flatE intc l) := by rw [flat_intc]; exact h
  obtain ⟨A, c, hv, hc, hr⟩ := Rd.of_own intc_len (by decide) h'
  exact ⟨A, c, hv, hc, hr⟩
theorem Rd.dropI {w : World} {b off k i : Nat} {l : List Int} (h : Rd intc 1 w (some ⟨b, off, none⟩) k l) (_hi : i ≤ k) : Rd intc 1 w (some ⟨b, off + i, none⟩) (k - i) (l.drop i) := by
  refine ⟨by rw [List.length_drop, h.1], fun j x hx => ⟨b, off + i, rfl, fun q u hu => ?_⟩⟩
  rw [List.getElem?_drop] at hx
  obtain ⟨b', off', hA, hc⟩ := h.2 _ x hx
  obtain ⟨rfl, rfl⟩ : b = b' ∧ off = off' := by simpa using hA
  have := hc q u hu
  rwa [show off + (i + j) * 1 + q = off + i + j * 1 + q by omega] at this
/-- what the law asks of the lowest way -/
theorem third_law {n : Int} {l : List Lk} (hg : GOk n l) {s t : Int} (hs : 0 ≤ s ∧ s < n) (ht : 0 ≤ t ∧ t < n) (h : 0 ≤ D l s t) :
    (pathL n l s t).length ≤ n.toNat ∧ costV l (pathL n l s t) = .tuple #[.int .i64 (D l s t), .bool true] ∧ ∀ i x, (pathL n l s t)[i]? = some x → (0 ≤ x ∧ x < n) ∧ pathG n l x t = (pathL n l s t).drop i := by
  refine ⟨path_len hg h hs, ?_, fun i x hx => ?_⟩
  · unfold costV
    rw [path_cost hg (D l s t).toNat s h (by omega)]
    rfl
  · have hm := path_mem hg (D l s t).toNat s h (by omega) hs.1 hs.2 x (List.mem_of_getElem? hx)
    refine ⟨hm, ?_⟩
    unfold pathG
    rw [if_pos ⟨rightG_in hg hm, rightG_in hg ht⟩]
    exact (path_part hg (D l s t).toNat s h (by omega) i x hx).1

set_option maxRecDepth 100000 in
set_option maxHeartbeats 8000000 in
theorem third_any {W : World} {A : Option Addr} {m c : Nat} {l : List Lk} (hr : Rd lkc 3 W A m l) (n s t a b : Int) :
    Calls Try.prog 5 #[.agg #[.int .i64 n, .slice A m c, .int .i64 s, .int .i64 t, .int .i64 a, .int .i64 b]] W fun e w' => e = .returned (.bool true) ∧ Below W.heap.size W w' := by
  have HL := Lib.hid hr
  have HM := Lib.hid hr.1
  have HA := Lib.hid (awake_any (W.alloc (.cells (gcs n A m c s t a b) 24)))
  clear hr
  go_enter Try.func5, Try.ntmps5
  go_wp2_with fail
  refine (HA.out).mono ?_
  rintro e w1 ⟨rfl, hb1⟩
  have hal := below_al1 W (.cells (gcs n A m c s t a b) 24)
  have HBG1 := Lib.hid (show BoxG w1 W.heap.size n A m c s t a b from BoxG.below (heap_alloc_new _ _) hb1)
  have HW1 := Lib.hid (hal.trans (hb1.mono hal.size))
  have HL1 := Lib.hid (HL.out.below HW1.out)
  generalize hbx : W.heap.size = bx at HBG1 ⊢
  have HBX := Lib.hid hbx
  clear hbx hb1 hal HL HA
  obtain ⟨p0, p1, p2, p3, p4, p5, p6⟩ := HBG1.out.cells
  by_cases hm : m ≤ 30
  · have hm2 : decide ((m : Int) > 30) = false := decide_eq_false (by omega)
    have hm3 : m ≤ 1000 := by omega
    have HCK := Lib.hid (check_any (c := c) HL1.out n hm3)
    have HG := Lib.hid (fun h : chkG n l = 0 => (chkG_ok (n := n) (l := l)).1 h)
    generalize chkG n l = ck at HCK HG
    go_wp2_with fail
    refine (HCK.out).mono ?_
    rintro e w2 ⟨rfl, hb2⟩
    have HBG2 := Lib.hid (HBG1.out.below hb2)
    have HW2 := Lib.hid (HW1.out.trans (hb2.mono HW1.out.size))
    have HL2 := Lib.hid (HL1.out.below hb2)
    clear p0 p1 p2 p3 p4 p5 p6 HBG1 HW1 HL1 HCK hb2
    obtain ⟨p0, p1, p2, p3, p4, p5, p6⟩ := HBG2.out.cells
    by_cases hck : ¬ ck = 0
    · have hckb : (ck != 0) = true := by simpa using hck
      go_wp2_with fail
      go_ret
      exact ⟨rfl, by have := HBX.out; subst this; exact HW2.out⟩
    · have hckb : (ck != 0) = false := by simpa using hck
      by_cases hs0 : s < 0
      · have hs0b : (decide (s < 0)) = true := by simpa using hs0
        go_wp2_with fail
        go_ret
        exact ⟨rfl, by have := HBX.out; subst this; exact HW2.out⟩
      · have hs0b : (decide (s < 0)) = false := by simpa using hs0
        by_cases hs1 : s ≥ n
        · have hs1b : (decide (s ≥ n)) = true := by simpa using hs1
          go_wp2_with fail
          go_ret
          exact ⟨rfl, by have := HBX.out; subst this; exact HW2.out⟩
        · have hs1b : (decide (s ≥ n)) = false := by simpa using hs1
          by_cases ht0 : t < 0
          · have ht0b : (decide (t < 0)) = true := by simpa using ht0
            go_wp2_with fail
            go_ret
            exact ⟨rfl, by have := HBX.out; subst this; exact HW2.out⟩
          · have ht0b : (decide (t < 0)) = false := by simpa using ht0
            by_cases ht1 : t ≥ n
            · have ht1b : (decide (t ≥ n)) = true := by simpa using ht1
              go_wp2_with fail
              go_ret
              exact ⟨rfl, by have := HBX.out; subst this; exact HW2.out⟩
            · have ht1b : (decide (t ≥ n)) = false := by simpa using ht1
              by_cases ha0 : a < 0
              · have ha0b : (decide (a < 0)) = true := by simpa using ha0
                go_wp2_with fail
                go_ret
                exact ⟨rfl, by have := HBX.out; subst this; exact HW2.out⟩
              · have ha0b : (decide (a < 0)) = false := by simpa using ha0
                by_cases ha1 : a ≥ n
                · have ha1b : (decide (a ≥ n)) = true := by simpa using ha1
                  go_wp2_with fail
                  go_ret
                  exact ⟨rfl, by have := HBX.out; subst this; exact HW2.out⟩
                · have ha1b : (decide (a ≥ n)) = false := by simpa using ha1
                  have hg := HG.out (by simpa using hck)
                  have HGK := Lib.hid hg
                  have hn64 := hg.n64
                  obtain ⟨N, hN⟩ : ∃ N : Nat, n = N := ⟨n.toNat, by omega⟩
                  subst hN
                  obtain ⟨S, rfl, hS1⟩ := nat_of_lt (n := (N : Int)) (v := s) (by omega) (by omega)
                  obtain ⟨T, rfl, hT1⟩ := nat_of_lt (n := (N : Int)) (v := t) (by omega) (by omega)
                  obtain ⟨P, rfl, hP1⟩ := nat_of_lt (n := (N : Int)) (v := a) (by omega) (by omega)
                  have hRS := rightG_in hg (x := (S : Int)) ⟨by omega, hS1⟩
                  have hRP := rightG_in hg (x := (P : Int)) ⟨by omega, hP1⟩
                  have hRT := rightG_in hg (x := (T : Int)) ⟨by omega, hT1⟩
                  have htri := fun h1 h2 => D_tri hg.pos (s := (S : Int)) (a := (P : Int)) (t := (T : Int)) h1 h2
                  have hb1 := And.intro (D_ge hg.pos (S : Int) T) (D_top (l := l) hg (a := (S : Int)) (t := T) ⟨by omega, hS1⟩)
                  have hb2 := And.intro (D_ge hg.pos (S : Int) P) (D_top (l := l) hg (a := (S : Int)) (t := P) ⟨by omega, hS1⟩)
                  have hb3 := And.intro (D_ge hg.pos (P : Int) T) (D_top (l := l) hg (a := (P : Int)) (t := T) ⟨by omega, hP1⟩)
                  have HSM := Lib.hid (small_ok hg)
                  have HPG := Lib.hid (show pathG N l S T = pathL N l S T by unfold pathG; rw [if_pos ⟨hRS, hRT⟩])
                  have HPN := Lib.hid (fun h => pathL_no (n := N) (l := l) (a := (S : Int)) (t := (T : Int)) h)
                  have HPC := Lib.hid (fun h => third_law hg (s := (S : Int)) (t := (T : Int)) ⟨by omega, hS1⟩ ⟨by omega, hT1⟩ h)
                  have HRS := Lib.hid hRS
                  have HRP := Lib.hid hRP
                  have HDI := Lib.hid (Dist_any (c := c) HL2.out N S hm3)
                  clear hg hRS hRP hRT HG
                  go_wp2_with fail
                  refine (HDI.out).mono ?_
                  rintro e w3 hgi
                  unfold GivesD at hgi
                  rw [if_pos HRS.out, Int.toNat_natCast] at hgi
                  obtain ⟨x1, rfl, hrow, hb⟩ := hgi
                  have HBG3 := Lib.hid (HBG2.out.below hb)
                  have HW3 := Lib.hid (HW2.out.trans (hb.mono HW2.out.size))
                  have HL3 := Lib.hid (HL2.out.below hb)
                  clear p0 p1 p2 p3 p4 p5 p6 HBG2 HW2 HL2
                  obtain ⟨p0, p1, p2, p3, p4, p5, p6⟩ := HBG3.out.cells
                  have HD3 := Lib.hid hrow.rowL
                  have HDJ := Lib.hid (Dist_any (c := c) HL3.out N P hm3)
                  clear hb hrow HDI
                  go_wp2_with fail
                  refine (HDJ.out).mono ?_
                  rintro e w4 hgi
                  unfold GivesD at hgi
                  rw [if_pos HRP.out, Int.toNat_natCast] at hgi
                  obtain ⟨x2, rfl, hrow, hb⟩ := hgi
                  have HBG4 := Lib.hid (HBG3.out.below hb)
                  have HW4 := Lib.hid (HW3.out.trans (hb.mono HW3.out.size))
                  have HL4 := Lib.hid (HL3.out.below hb)
                  clear p0 p1 p2 p3 p4 p5 p6 HBG3 HW3 HL3
                  obtain ⟨p0, p1, p2, p3, p4, p5, p6⟩ := HBG4.out.cells
                  have HD4 := Lib.hid (HD3.out.below hb)
                  have HE4 := Lib.hid hrow.rowL
                  clear hb hrow HDJ HD3
                  have q1 := HD4.out P (by omega)
                  have q2 := HE4.out T (by omega)
                  have q3 := HD4.out T (by omega)
                  have hT0 : (0 : Int) ≤ T := by omega
                  have hP0 : (0 : Int) ≤ P := by omega
                  have HTH : Hid (∀ w', Below w4.heap.size w4 w' → BoxG w' bx N A m c S T P b ∧ Rd lkc 3 w' A m l ∧ RowL w' x1 N (D l S) ∧ Below W.heap.size W w') := Lib.hid (fun w' h => ⟨HBG4.out.below h, HL4.out.below h, HD4.out.below h, HW4.out.trans (h.mono HW4.out.size)⟩)
                  have HDD : Hid (∀ w', RowL w' x1 N (D l S) → w'.cell? ⟨x1, T, none⟩ = some (.int .i64 (D l S T))) := Lib.hid (fun w' h => h T (by omega))
                  clear HBG4 HL4 HD4 HE4 HW4
                  generalize D l (S : Int) P = da at *
                  generalize D l (P : Int) T = ea at *
                  generalize D l (S : Int) T = dt at *
                  by_cases h1 : da ≥ 0
                  · have f1 : decide (da ≥ 0) = true := decide_eq_true h1
                    by_cases h2 : ea ≥ 0
                    · have f2 : decide (ea ≥ 0) = true := decide_eq_true h2
                      have h3 := htri h1 h2
                      have f3 : decide (dt < 0) = false := decide_eq_false (by omega)
                      have f4 : decide (dt > da + ea) = false := decide_eq_false (by omega)
                      have hw : IntKind.i64.wrap (da + ea) = da + ea := IntWalk.i64_in _ (by omega)
                      clear htri
                      go_wp2_with fail
                      go_quiet (fail)
                      have hw0 := below_dN (w := w4) nq
                      generalize w4.drewN nq = w5 at hw0 ⊢
                      obtain ⟨hg5, hl5, hd5, hW5⟩ := HTH.out w5 hw0
                      have HB5 := Lib.hid hw0
                      have HPA := Lib.hid (path_any (c := c) hl5 N S T hm3)
                      rw [HPG.out] at HPA
                      clear p0 p1 p2 p3 p4 p5 p6 q1 q2 q3 hl5 hd5 hW5 hw0
                      obtain ⟨p0, p1, p2, p3, p4, p5, p6⟩ := hg5.cells
                      clear hg5
                      go_wp2_with fail
                      refine (HPA.out).mono ?_
                      rintro e w6 ⟨v, rfl, hpl, hb⟩
                      obtain ⟨G, gc, rfl, hgc, hrp⟩ := hpl.rdc
                      have HB6 := Lib.hid (HB5.out.trans (hb.mono HB5.out.size))
                      have HRP6 := Lib.hid hrp
                      clear p0 p1 p2 p3 p4 p5 p6 hpl hb hrp HPA HB5
                      obtain ⟨hg6, hl6, hd6, hW6⟩ := HTH.out w6 HB6.out
                      obtain ⟨p0, p1, p2, p3, p4, p5, p6⟩ := hg6.cells
                      have q1 := HDD.out _ hd6
                      have HL6 := Lib.hid hl6
                      have HW6 := Lib.hid hW6
                      clear hg6 hl6 hd6 hW6
                      by_cases h9 : dt < 0
                      · have g1 : decide (dt < 0) = true := decide_eq_true h9
                        first
                          | (exfalso; omega)
                          | (have hnl : (pathL N l S T).length = 0 := by rw [HPN.out h9]; rfl
                             rw [hnl]
                             clear hnl
                             go_wp2_with fail
                             go_ret
                             exact ⟨rfl, HW6.out⟩)
                      · have g1 : decide (dt < 0) = false := decide_eq_false h9
                        obtain ⟨HK, HCV, HPT⟩ := HPC.out (by omega)
                        rw [Int.toNat_natCast] at HK
                        have HPP := Lib.hid HPT
                        have HCO := Lib.hid (costw_any (c := c) (d := gc) HL6.out HRP6.out HSM.out hm3 (by omega) hgc)
                        rw [HCV] at HCO
                        clear HPT HCV h9
                        generalize pathL N l S T = pl at *
                        generalize hKe : pl.length = K at *
                        have HKE := Lib.hid hKe
                        clear hKe
                        have g2 : (dt != dt) = false := by simp
                        have g3 : decide ((K : Int) > N) = false := decide_eq_false (by omega)
                        have g4 : decide (N < K) = false := decide_eq_false (by omega)
                        go_wp2_with fail
                        refine (HCO.out).mono ?_
                        rintro e w7 ⟨rfl, hb⟩
                        have HB7 := Lib.hid (HB6.out.trans (hb.mono HB6.out.size))
                        have HRP7 := Lib.hid (HRP6.out.below hb)
                        clear p0 p1 p2 p3 p4 p5 p6 q1 hb HCO HB6 HL6 HW6 HRP6
                        obtain ⟨hg7, hl7, hd7, hW7⟩ := HTH.out w7 HB7.out
                        obtain ⟨p0, p1, p2, p3, p4, p5, p6⟩ := hg7.cells
                        have q1 := HDD.out _ hd7
                        have HL7 := Lib.hid hl7
                        have HW7 := Lib.hid hW7
                        have HG7 := Lib.hid hg7
                        clear hg7 hl7 hd7 hW7
                        have HB0 := Lib.hid (Below.refl w7.heap.size w7)
                        go_wp2_with fail
                        go_loopw [9] (fun v wr => ∃ i : Nat, i ≤ K ∧ v = .int .i64 i ∧ Below w7.heap.size w7 wr) (fun v _ => K - (intOf v).toNat)
                        case atStart => exact ⟨0, Nat.zero_le _, rfl, HB0.out⟩
                        case round =>
                          obtain ⟨i, hi, rfl, hbr⟩ := hrel
                          have HBR := Lib.hid hbr
                          have HWR := Lib.hid (HW7.out.trans (hbr.mono HW7.out.size))
                          clear p0 p1 p2 p3 p4 p5 p6 q1
                          obtain ⟨p0, p1, p2, p3, p4, p5, p6⟩ := (HG7.out.below hbr).cells
                          clear hbr
                          have hi0 : (0 : Int) ≤ i := by omega
                          by_cases hlt : i < K
                          · have hi1 : (i : Int) < K := by omega
                            obtain ⟨x, gb, go, hx, rfl, hcell⟩ := (HRP7.out.below HBR.out).at_ hlt
                            have c0 := hcell 0 _ rfl
                            rw [Nat.add_zero, Nat.mul_one] at c0
                            obtain ⟨hxr, hxp⟩ := HPP.out i x hx
                            have HDR := Lib.hid (fun w' (h : Below wr.heap.size wr w') => Rd.dropI (HRP7.out.below (HBR.out.trans (h.mono HBR.out.size))) (Nat.le_of_lt hlt))
                            have HPX := Lib.hid (fun w' (h : Below wr.heap.size wr w') => (path_any (c := c) (HL7.out.below (HBR.out.trans (h.mono HBR.out.size))) N x T hm3).mono fun e w'' ⟨v, he, h1, h2⟩ => show GivesI w' (pl.drop i) e w'' by rw [he, ← hxp]; exact givesI_of h1 h2)
                            have HBX2 := Lib.hid (fun w' (h : Below wr.heap.size wr w') => show Below wr.heap.size wr w' ∧ w'.cell? ⟨bx, 0, none⟩ = some (.int .i64 N) ∧ w'.cell? ⟨bx, 1, none⟩ = some (.slice A m c) ∧ w'.cell? ⟨bx, 3, none⟩ = some (.int .i64 T) ∧ w'.cell? ⟨gb, go + i, none⟩ = some (.int .i64 x) from by
                              obtain ⟨-, r0, r1, r2, r3, -⟩ := (HG7.out.below (HBR.out.trans (h.mono HBR.out.size))).cells
                              exact ⟨h, r0, r1, r3, (h.cell (World.block_lt_of_cell? wr _ c0)).trans c0⟩)
                            have HLN := Lib.hid (show (pl.drop i).length = K - i by rw [List.length_drop, HKE.out])
                            have hKN : K ≤ 64 := by omega
                            have hcx : ¬ gc - i = 0 := by omega
                            have hi2 : (i : Int) ≤ K := by omega
                            have hi3 : (K : Int) ≤ gc := by omega
                            clear hx hcell hxr hxp
                            generalize pl.drop i = dr at HDR HPX HLN
                            go_wp2_with fail
                            go_region_held3 (fun w' => Below wr.heap.size wr w' ∧ w'.cell? ⟨bx, 0, none⟩ = some (.int .i64 N) ∧ w'.cell? ⟨bx, 1, none⟩ = some (.slice A m c) ∧ w'.cell? ⟨bx, 3, none⟩ = some (.int .i64 T) ∧ w'.cell? ⟨gb, go + i, none⟩ = some (.int .i64 x))
                              (first | assumption | exact HBX2.out _ (by assumption) | exact HBX2.out _ (Below.refl _ _).drew)
                              (first
                                | (go_at_call 20; (with_reducible refine (HPX.out _ (And.left (by assumption))).mono ?_); rintro e wA ⟨A1, c1, rfl, hrD, hbA⟩; have HRD1 := Lib.hid hrD; clear hrD; have hchA := below_step (And.left (by assumption)) hbA; rw [HLN.out] at *)
                                | (go_at_call 15; (with_reducible refine (ints_any HRD1.out (HDR.out _ (And.left (by assumption))) (by omega) (by omega) true (decide_eq_true rfl)).mono ?_); rintro e wA ⟨rfl, hbA⟩; have hchA := below_step (And.left (by assumption)) hbA))
                            go_wp2
                            go_roundw
                            case rel => exact ⟨i + 1, by omega, by go_num, HBR.out.trans (hchA.mono HBR.out.size)⟩
                            case measure => simp [intOf]; omega
                          · have hge : ¬ (i : Int) < K := by omega
                            go_wp2_with fail
                            go_ret
                            exact ⟨rfl, HWR.out⟩
                    · have f2 : decide (ea ≥ 0) = false := decide_eq_false h2
                      clear htri
                      go_wp2_with fail
                      go_quiet (fail)
                      have hw0 := below_dN (w := w4) nq
                      generalize w4.drewN nq = w5 at hw0 ⊢
                      obtain ⟨hg5, hl5, hd5, hW5⟩ := HTH.out w5 hw0
                      have HB5 := Lib.hid hw0
                      have HPA := Lib.hid (path_any (c := c) hl5 N S T hm3)
                      rw [HPG.out] at HPA
                      clear p0 p1 p2 p3 p4 p5 p6 q1 q2 q3 hl5 hd5 hW5 hw0
                      obtain ⟨p0, p1, p2, p3, p4, p5, p6⟩ := hg5.cells
                      clear hg5
                      go_wp2_with fail
                      refine (HPA.out).mono ?_
                      rintro e w6 ⟨v, rfl, hpl, hb⟩
                      obtain ⟨G, gc, rfl, hgc, hrp⟩ := hpl.rdc
                      have HB6 := Lib.hid (HB5.out.trans (hb.mono HB5.out.size))
                      have HRP6 := Lib.hid hrp
                      clear p0 p1 p2 p3 p4 p5 p6 hpl hb hrp HPA HB5
                      obtain ⟨hg6, hl6, hd6, hW6⟩ := HTH.out w6 HB6.out
                      obtain ⟨p0, p1, p2, p3, p4, p5, p6⟩ := hg6.cells
                      have q1 := HDD.out _ hd6
                      have HL6 := Lib.hid hl6
                      have HW6 := Lib.hid hW6
                      clear hg6 hl6 hd6 hW6
                      by_cases h9 : dt < 0
                      · have g1 : decide (dt < 0) = true := decide_eq_true h9
                        first
                          | (exfalso; omega)
                          | (have hnl : (pathL N l S T).length = 0 := by rw [HPN.out h9]; rfl
                             rw [hnl]
                             clear hnl
                             go_wp2_with fail
                             go_ret
                             exact ⟨rfl, HW6.out⟩)
                      · have g1 : decide (dt < 0) = false := decide_eq_false h9
                        obtain ⟨HK, HCV, HPT⟩ := HPC.out (by omega)
                        rw [Int.toNat_natCast] at HK
                        have HPP := Lib.hid HPT
                        have HCO := Lib.hid (costw_any (c := c) (d := gc) HL6.out HRP6.out HSM.out hm3 (by omega) hgc)
                        rw [HCV] at HCO
                        clear HPT HCV h9
                        generalize pathL N l S T = pl at *
                        generalize hKe : pl.length = K at *
                        have HKE := Lib.hid hKe
                        clear hKe
                        have g2 : (dt != dt) = false := by simp
                        have g3 : decide ((K : Int) > N) = false := decide_eq_false (by omega)
                        have g4 : decide (N < K) = false := decide_eq_false (by omega)
                        go_wp2_with fail
                        refine (HCO.out).mono ?_
                        rintro e w7 ⟨rfl, hb⟩
                        have HB7 := Lib.hid (HB6.out.trans (hb.mono HB6.out.size))
                        have HRP7 := Lib.hid (HRP6.out.below hb)
                        clear p0 p1 p2 p3 p4 p5 p6 q1 hb HCO HB6 HL6 HW6 HRP6
                        obtain ⟨hg7, hl7, hd7, hW7⟩ := HTH.out w7 HB7.out
                        obtain ⟨p0, p1, p2, p3, p4, p5, p6⟩ := hg7.cells
                        have q1 := HDD.out _ hd7
                        have HL7 := Lib.hid hl7
                        have HW7 := Lib.hid hW7
                        have HG7 := Lib.hid hg7
                        clear hg7 hl7 hd7 hW7
                        have HB0 := Lib.hid (Below.refl w7.heap.size w7)
                        go_wp2_with fail
                        go_loopw [9] (fun v wr => ∃ i : Nat, i ≤ K ∧ v = .int .i64 i ∧ Below w7.heap.size w7 wr) (fun v _ => K - (intOf v).toNat)
                        case atStart => exact ⟨0, Nat.zero_le _, rfl, HB0.out⟩
                        case round =>
                          obtain ⟨i, hi, rfl, hbr⟩ := hrel
                          have HBR := Lib.hid hbr
                          have HWR := Lib.hid (HW7.out.trans (hbr.mono HW7.out.size))
                          clear p0 p1 p2 p3 p4 p5 p6 q1
                          obtain ⟨p0, p1, p2, p3, p4, p5, p6⟩ := (HG7.out.below hbr).cells
                          clear hbr
                          have hi0 : (0 : Int) ≤ i := by omega
                          by_cases hlt : i < K
                          · have hi1 : (i : Int) < K := by omega
                            obtain ⟨x, gb, go, hx, rfl, hcell⟩ := (HRP7.out.below HBR.out).at_ hlt
                            have c0 := hcell 0 _ rfl
                            rw [Nat.add_zero, Nat.mul_one] at c0
                            obtain ⟨hxr, hxp⟩ := HPP.out i x hx
                            have HDR := Lib.hid (fun w' (h : Below wr.heap.size wr w') => Rd.dropI (HRP7.out.below (HBR.out.trans (h.mono HBR.out.size))) (Nat.le_of_lt hlt))
                            have HPX := Lib.hid (fun w' (h : Below wr.heap.size wr w') => (path_any (c := c) (HL7.out.below (HBR.out.trans (h.mono HBR.out.size))) N x T hm3).mono fun e w'' ⟨v, he, h1, h2⟩ => show GivesI w' (pl.drop i) e w'' by rw [he, ← hxp]; exact givesI_of h1 h2)
                            have HBX2 := Lib.hid (fun w' (h : Below wr.heap.size wr w') => show Below wr.heap.size wr w' ∧ w'.cell? ⟨bx, 0, none⟩ = some (.int .i64 N) ∧ w'.cell? ⟨bx, 1, none⟩ = some (.slice A m c) ∧ w'.cell? ⟨bx, 3, none⟩ = some (.int .i64 T) ∧ w'.cell? ⟨gb, go + i, none⟩ = some (.int .i64 x) from by
                              obtain ⟨-, r0, r1, r2, r3, -⟩ := (HG7.out.below (HBR.out.trans (h.mono HBR.out.size))).cells
                              exact ⟨h, r0, r1, r3, (h.cell (World.block_lt_of_cell? wr _ c0)).trans c0⟩)
                            have HLN := Lib.hid (show (pl.drop i).length = K - i by rw [List.length_drop, HKE.out])
                            have hKN : K ≤ 64 := by omega
                            have hcx : ¬ gc - i = 0 := by omega
                            have hi2 : (i : Int) ≤ K := by omega
                            have hi3 : (K : Int) ≤ gc := by omega
                            clear hx hcell hxr hxp
                            generalize pl.drop i = dr at HDR HPX HLN
                            go_wp2_with fail
                            go_region_held3 (fun w' => Below wr.heap.size wr w' ∧ w'.cell? ⟨bx, 0, none⟩ = some (.int .i64 N) ∧ w'.cell? ⟨bx, 1, none⟩ = some (.slice A m c) ∧ w'.cell? ⟨bx, 3, none⟩ = some (.int .i64 T) ∧ w'.cell? ⟨gb, go + i, none⟩ = some (.int .i64 x))
                              (first | assumption | exact HBX2.out _ (by assumption) | exact HBX2.out _ (Below.refl _ _).drew)
                              (first
                                | (go_at_call 20; (with_reducible refine (HPX.out _ (And.left (by assumption))).mono ?_); rintro e wA ⟨A1, c1, rfl, hrD, hbA⟩; have HRD1 := Lib.hid hrD; clear hrD; have hchA := below_step (And.left (by assumption)) hbA; rw [HLN.out] at *)
                                | (go_at_call 15; (with_reducible refine (ints_any HRD1.out (HDR.out _ (And.left (by assumption))) (by omega) (by omega) true (decide_eq_true rfl)).mono ?_); rintro e wA ⟨rfl, hbA⟩; have hchA := below_step (And.left (by assumption)) hbA))
                            go_wp2
                            go_roundw
                            case rel => exact ⟨i + 1, by omega, by go_num, HBR.out.trans (hchA.mono HBR.out.size)⟩
                            case measure => simp [intOf]; omega
                          · have hge : ¬ (i : Int) < K := by omega
                            go_wp2_with fail
                            go_ret
                            exact ⟨rfl, HWR.out⟩
                  · have f1 : decide (da ≥ 0) = false := decide_eq_false h1
                    clear htri
                    go_wp2_with fail
                    go_quiet (fail)
                    have hw0 := below_dN (w := w4) nq
                    generalize w4.drewN nq = w5 at hw0 ⊢
                    obtain ⟨hg5, hl5, hd5, hW5⟩ := HTH.out w5 hw0
                    have HB5 := Lib.hid hw0
                    have HPA := Lib.hid (path_any (c := c) hl5 N S T hm3)
                    rw [HPG.out] at HPA
                    clear p0 p1 p2 p3 p4 p5 p6 q1 q2 q3 hl5 hd5 hW5 hw0
                    obtain ⟨p0, p1, p2, p3, p4, p5, p6⟩ := hg5.cells
                    clear hg5
                    go_wp2_with fail
                    refine (HPA.out).mono ?_
                    rintro e w6 ⟨v, rfl, hpl, hb⟩
                    obtain ⟨G, gc, rfl, hgc, hrp⟩ := hpl.rdc
                    have HB6 := Lib.hid (HB5.out.trans (hb.mono HB5.out.size))
                    have HRP6 := Lib.hid hrp
                    clear p0 p1 p2 p3 p4 p5 p6 hpl hb hrp HPA HB5
                    obtain ⟨hg6, hl6, hd6, hW6⟩ := HTH.out w6 HB6.out
                    obtain ⟨p0, p1, p2, p3, p4, p5, p6⟩ := hg6.cells
                    have q1 := HDD.out _ hd6
                    have HL6 := Lib.hid hl6
                    have HW6 := Lib.hid hW6
                    clear hg6 hl6 hd6 hW6
                    by_cases h9 : dt < 0
                    · have g1 : decide (dt < 0) = true := decide_eq_true h9
                      first
                        | (exfalso; omega)
                        | (have hnl : (pathL N l S T).length = 0 := by rw [HPN.out h9]; rfl
                           rw [hnl]
                           clear hnl
                           go_wp2_with fail
                           go_ret
                           exact ⟨rfl, HW6.out⟩)
                    · have g1 : decide (dt < 0) = false := decide_eq_false h9
                      obtain ⟨HK, HCV, HPT⟩ := HPC.out (by omega)
                      rw [Int.toNat_natCast] at HK
                      have HPP := Lib.hid HPT
                      have HCO := Lib.hid (costw_any (c := c) (d := gc) HL6.out HRP6.out HSM.out hm3 (by omega) hgc)
                      rw [HCV] at HCO
                      clear HPT HCV h9
                      generalize pathL N l S T = pl at *
                      generalize hKe : pl.length = K at *
                      have HKE := Lib.hid hKe
                      clear hKe
                      have g2 : (dt != dt) = false := by simp
                      have g3 : decide ((K : Int) > N) = false := decide_eq_false (by omega)
                      have g4 : decide (N < K) = false := decide_eq_false (by omega)
                      go_wp2_with fail
                      refine (HCO.out).mono ?_
                      rintro e w7 ⟨rfl, hb⟩
                      have HB7 := Lib.hid (HB6.out.trans (hb.mono HB6.out.size))
                      have HRP7 := Lib.hid (HRP6.out.below hb)
                      clear p0 p1 p2 p3 p4 p5 p6 q1 hb HCO HB6 HL6 HW6 HRP6
                      obtain ⟨hg7, hl7, hd7, hW7⟩ := HTH.out w7 HB7.out
                      obtain ⟨p0, p1, p2, p3, p4, p5, p6⟩ := hg7.cells
                      have q1 := HDD.out _ hd7
                      have HL7 := Lib.hid hl7
                      have HW7 := Lib.hid hW7
                      have HG7 := Lib.hid hg7
                      clear hg7 hl7 hd7 hW7
                      have HB0 := Lib.hid (Below.refl w7.heap.size w7)
                      go_wp2_with fail
                      go_loopw [9] (fun v wr => ∃ i : Nat, i ≤ K ∧ v = .int .i64 i ∧ Below w7.heap.size w7 wr) (fun v _ => K - (intOf v).toNat)
                      case atStart => exact ⟨0, Nat.zero_le _, rfl, HB0.out⟩
                      case round =>
                        obtain ⟨i, hi, rfl, hbr⟩ := hrel
                        have HBR := Lib.hid hbr
                        have HWR := Lib.hid (HW7.out.trans (hbr.mono HW7.out.size))
                        clear p0 p1 p2 p3 p4 p5 p6 q1
                        obtain ⟨p0, p1, p2, p3, p4, p5, p6⟩ := (HG7.out.below hbr).cells
                        clear hbr
                        have hi0 : (0 : Int) ≤ i := by omega
                        by_cases hlt : i < K
                        · have hi1 : (i : Int) < K := by omega
                          obtain ⟨x, gb, go, hx, rfl, hcell⟩ := (HRP7.out.below HBR.out).at_ hlt
                          have c0 := hcell 0 _ rfl
                          rw [Nat.add_zero, Nat.mul_one] at c0
                          obtain ⟨hxr, hxp⟩ := HPP.out i x hx
                          have HDR := Lib.hid (fun w' (h : Below wr.heap.size wr w') => Rd.dropI (HRP7.out.below (HBR.out.trans (h.mono HBR.out.size))) (Nat.le_of_lt hlt))
                          have HPX := Lib.hid (fun w' (h : Below wr.heap.size wr w') => (path_any (c := c) (HL7.out.below (HBR.out.trans (h.mono HBR.out.size))) N x T hm3).mono fun e w'' ⟨v, he, h1, h2⟩ => show GivesI w' (pl.drop i) e w'' by rw [he, ← hxp]; exact givesI_of h1 h2)
                          have HBX2 := Lib.hid (fun w' (h : Below wr.heap.size wr w') => show Below wr.heap.size wr w' ∧ w'.cell? ⟨bx, 0, none⟩ = some (.int .i64 N) ∧ w'.cell? ⟨bx, 1, none⟩ = some (.slice A m c) ∧ w'.cell? ⟨bx, 3, none⟩ = some (.int .i64 T) ∧ w'.cell? ⟨gb, go + i, none⟩ = some (.int .i64 x) from by
                            obtain ⟨-, r0, r1, r2, r3, -⟩ := (HG7.out.below (HBR.out.trans (h.mono HBR.out.size))).cells
                            exact ⟨h, r0, r1, r3, (h.cell (World.block_lt_of_cell? wr _ c0)).trans c0⟩)
                          have HLN := Lib.hid (show (pl.drop i).length = K - i by rw [List.length_drop, HKE.out])
                          have hKN : K ≤ 64 := by omega
                          have hcx : ¬ gc - i = 0 := by omega
                          have hi2 : (i : Int) ≤ K := by omega
                          have hi3 : (K : Int) ≤ gc := by omega
                          clear hx hcell hxr hxp
                          generalize pl.drop i = dr at HDR HPX HLN
                          go_wp2_with fail
                          go_region_held3 (fun w' => Below wr.heap.size wr w' ∧ w'.cell? ⟨bx, 0, none⟩ = some (.int .i64 N) ∧ w'.cell? ⟨bx, 1, none⟩ = some (.slice A m c) ∧ w'.cell? ⟨bx, 3, none⟩ = some (.int .i64 T) ∧ w'.cell? ⟨gb, go + i, none⟩ = some (.int .i64 x))
                            (first | assumption | exact HBX2.out _ (by assumption) | exact HBX2.out _ (Below.refl _ _).drew)
                            (first
                              | (go_at_call 20; (with_reducible refine (HPX.out _ (And.left (by assumption))).mono ?_); rintro e wA ⟨A1, c1, rfl, hrD, hbA⟩; have HRD1 := Lib.hid hrD; clear hrD; have hchA := below_step (And.left (by assumption)) hbA; rw [HLN.out] at *)
                              | (go_at_call 15; (with_reducible refine (ints_any HRD1.out (HDR.out _ (And.left (by assumption))) (by omega) (by omega) true (decide_eq_true rfl)).mono ?_); rintro e wA ⟨rfl, hbA⟩; have hchA := below_step (And.left (by assumption)) hbA))
                          go_wp2
                          go_roundw
                          case rel => exact ⟨i + 1, by omega, by go_num, HBR.out.trans (hchA.mono HBR.out.size)⟩
                          case measure => simp [intOf]; omega
                        · have hge : ¬ (i : Int) < K := by omega
                          go_wp2_with fail
                          go_ret
                          exact ⟨rfl, HWR.out⟩
  · have hm2 : decide ((m : Int) > 30) = true := decide_eq_true (by omega)
    go_wp2_with fail
    go_ret
    exact ⟨rfl, by have := HBX.out; subst this; exact HW1.out⟩
end Go.Proofs.Ytmdcfiejkbhgpaa
