/-
  The law RepairNear, walked. (Printed by genrep.py.)
-/
import Derived.Test.YtmdcfiejkbhgpaaRepF
namespace Go.Proofs.Ytmdcfiejkbhgpaa
open Go.RowKit

set_option maxRecDepth 100000 in
set_option maxHeartbeats 8000000 in
theorem repnear_any {W : World} {A : Option Addr} {m c : Nat} {l : List Lk} (hr : Rd lkc 3 W A m l) (n s e d : Int) :
    Calls Try.prog 11 #[.agg #[.int .i64 n, .slice A m c, .int .i64 s, .int .i64 e, .int .i64 d]] W fun r w' => r = .returned (.bool true) ∧ Below W.heap.size W w' := by
  have HL := Lib.hid hr
  have HM := Lib.hid hr.1
  have HA := Lib.hid (awaker_any (W.alloc (.cells (gcr n A m c s e d) 42)))
  clear hr
  go_enter Try.func11, Try.ntmps11
  go_wp2_with fail
  refine (HA.out).mono ?_
  rintro r w1 ⟨rfl, hb1⟩
  have hal := below_al1 W (.cells (gcr n A m c s e d) 42)
  have HBG1 := Lib.hid (show BoxQ w1 W.heap.size n A m c s e d from BoxQ.below (heap_alloc_new _ _) hb1)
  have HW1 := Lib.hid (hal.trans (hb1.mono hal.size))
  have HL1 := Lib.hid (HL.out.below HW1.out)
  generalize hbx : W.heap.size = bx at HBG1 ⊢
  have HBX := Lib.hid hbx
  clear hbx hb1 hal HL HA
  obtain ⟨p0, p1, p2, p3, p4, p5⟩ := HBG1.out.cells
  by_cases hm : m ≤ 30
  · have hm2 : decide ((m : Int) > 30) = false := decide_eq_false (by omega)
    have hm3 : m ≤ 1000 := by omega
    have HCK := Lib.hid (rcheck_any (c := c) HL1.out n hm3)
    have HG := Lib.hid (fun h : chkG n l = 0 => (chkG_ok (n := n) (l := l)).1 h)
    generalize chkG n l = ck at HCK HG
    go_wp2_with fail
    refine (HCK.out).mono ?_
    rintro r w2 ⟨rfl, hb2⟩
    have HBG2 := Lib.hid (HBG1.out.below hb2)
    have HW2 := Lib.hid (HW1.out.trans (hb2.mono HW1.out.size))
    have HL2 := Lib.hid (HL1.out.below hb2)
    clear p0 p1 p2 p3 p4 p5 HBG1 HW1 HL1 HCK hb2
    obtain ⟨p0, p1, p2, p3, p4, p5⟩ := HBG2.out.cells
    by_cases hck : ¬ ck = 0
    · have hckb : (ck != 0) = true := by simpa using hck
      go_wp2_with fail
      go_ret
      exact ⟨rfl, by have := HBX.out; subst this; exact HW2.out⟩
    · have hckb : (ck != 0) = false := by simpa using hck
      by_cases hs0 : s < 0
      · have hs0b : (decide (s < 0)) = true := by simpa using hs0
        go_wp2_with fail
        go_ret
        exact ⟨rfl, by have := HBX.out; subst this; exact HW2.out⟩
      · have hs0b : (decide (s < 0)) = false := by simpa using hs0
        by_cases hs1 : s ≥ n
        · have hs1b : (decide (s ≥ n)) = true := by simpa using hs1
          go_wp2_with fail
          go_ret
          exact ⟨rfl, by have := HBX.out; subst this; exact HW2.out⟩
        · have hs1b : (decide (s ≥ n)) = false := by simpa using hs1
          by_cases he0 : e < 0
          · have he0b : (decide (e < 0)) = true := by simpa using he0
            go_wp2_with fail
            go_ret
            exact ⟨rfl, by have := HBX.out; subst this; exact HW2.out⟩
          · have he0b : (decide (e < 0)) = false := by simpa using he0
            by_cases he1 : e ≥ n
            · have he1b : (decide (e ≥ n)) = true := by simpa using he1
              go_wp2_with fail
              go_ret
              exact ⟨rfl, by have := HBX.out; subst this; exact HW2.out⟩
            · have he1b : (decide (e ≥ n)) = false := by simpa using he1
              by_cases hd0 : d < 0
              · have hd0b : (decide (d < 0)) = true := by simpa using hd0
                go_wp2_with fail
                go_ret
                exact ⟨rfl, by have := HBX.out; subst this; exact HW2.out⟩
              · have hd0b : (decide (d < 0)) = false := by simpa using hd0
                by_cases hd1 : d ≥ n
                · have hd1b : (decide (d ≥ n)) = true := by simpa using hd1
                  go_wp2_with fail
                  go_ret
                  exact ⟨rfl, by have := HBX.out; subst this; exact HW2.out⟩
                · have hd1b : (decide (d ≥ n)) = false := by simpa using hd1
                  have hg := HG.out (by simpa using hck)
                  have hn64 := hg.n64
                  obtain ⟨N, hN⟩ : ∃ N : Nat, n = N := ⟨n.toNat, by omega⟩
                  subst hN
                  obtain ⟨S, rfl, hS1⟩ := nat_of_lt (n := (N : Int)) (v := s) (by omega) (by omega)
                  obtain ⟨E, rfl, hE1⟩ := nat_of_lt (n := (N : Int)) (v := e) (by omega) (by omega)
                  obtain ⟨T, rfl, hT1⟩ := nat_of_lt (n := (N : Int)) (v := d) (by omega) (by omega)
                  have hS : 0 ≤ (S : Int) ∧ (S : Int) < N := ⟨by omega, hS1⟩
                  have hE : 0 ≤ (E : Int) ∧ (E : Int) < N := ⟨by omega, hE1⟩
                  have hT : 0 ≤ (T : Int) ∧ (T : Int) < N := ⟨by omega, hT1⟩
                  have hRW := rightG_in (without_ok hg S E) hS

                  have HSG := Lib.hid (small_gok hg)
                  have hself : cleanV N l S E S S = true := clean_self hg S E
                  have hselt : cleanV N l S E T T = true := clean_self hg S E
                  have HNL := Lib.hid (fun (i : Nat) (hi : (i : Int) < N) (h : cleanV N l S E S i = true) => near_law hg hS (i := (i : Int)) ⟨by omega, hi⟩ h)
                  have HWB := Lib.hid (show 0 ≤ D (withoutG l S E) (S : Int) T → (costG l (walkV N l S T (stepsR N l S E T))).isSome = true ∧ D l S T ≤ (costG l (walkV N l S T (stepsR N l S E T))).getD 0 from fun h => by
                    obtain ⟨-, -, r, hw, hch, hlast⟩ := around_law hg hS hE hT h
                    rw [hw]
                    obtain ⟨cz, hcz⟩ := Option.isSome_iff_exists.1 (chn_cost hch)
                    have h2 := cost_least hg hlast hcz
                    rw [show costG l ((S : Int) :: r) = some cz from hcz]
                    exact ⟨rfl, h2⟩)
                  have HAN := Lib.hid (after_none hg hS hE hT)
                  have hNV : nearV N l S E = (nodes (N : Int)).map (cleanV N l S E S) := if_pos (by rw [rightG_in hg hS, rightG_in hg hE]; rfl)
                  have hFV : farV N l S E T = (nodes (N : Int)).map (fun x => cleanV N l S E x T) := if_pos (by rw [rightG_in hg hS, rightG_in hg hE, rightG_in hg hT]; rfl)
                  have HNC := Lib.hid (fun (i : Nat) (hi : (i : Int) < N) => show (nearV N l S E)[i]? = some (cleanV N l S E S i) by rw [hNV, List.getElem?_map, nodes_at hi]; rfl)
                  have HFC := Lib.hid (fun (i : Nat) (hi : (i : Int) < N) => show (farV N l S E T)[i]? = some (cleanV N l S E i T) by rw [hFV, List.getElem?_map, nodes_at hi]; rfl)
                  have HNN := Lib.hid (show (nearV N l S E).length = N by rw [hNV, List.length_map, nodes_len]; omega)
                  have HFN := Lib.hid (show (farV N l S E T).length = N by rw [hFV, List.length_map, nodes_len]; omega)
                  have hRL := rightG_in hg hS
                  have HDA := Lib.hid (fun (i : Nat) (hi : (i : Int) < N) => distV_at hRL (k := i) hi)
                  have HEA := Lib.hid (fun (i : Nat) (hi : (i : Int) < N) => distV_at hRW (k := i) hi)
                  have HDL := Lib.hid (show (distV N l S).length = N by rw [distV_len hRL]; omega)
                  have HEL := Lib.hid (show (distV N (withoutG l S E) S).length = N by rw [distV_len hRW]; omega)
                  have L1 := Lib.hid (stepsR_few N l S E T)
                  have LW := Lib.hid (walkV_few N l S T (stepsR N l S E T))
                  have HWL := Lib.hid (Nat.le_trans (withoutG_len l S E) (Nat.le_of_eq HM.out))
                  have HNE := Lib.hid (near_any (c := c) HL2.out N S E hm3)
                  clear hg HG hRW hRL hNV hFV
                  go_wp2_with fail
                  refine (HNE.out).mono ?_
                  rintro r w3 ⟨v, rfl, hv, hb⟩
                  obtain ⟨A3, c3, rfl, hr3⟩ := hv.rd
                  have hr3' := hr3
                  rw [HNN.out] at hr3'
                  obtain ⟨nb, no, rfl, -⟩ := rd_boolAt hr3' (HNC.out S hS1)
                  rw [HNN.out]
                  have HN3 := Lib.hid hr3'
                  have HBG3 := Lib.hid (HBG2.out.below hb)
                  have HW3 := Lib.hid (HW2.out.trans (hb.mono HW2.out.size))
                  have HL3 := Lib.hid (HL2.out.below hb)
                  have HFE := Lib.hid (far_any (c := c) HL3.out N S E T hm3)
                  clear p0 p1 p2 p3 p4 p5 HBG2 HW2 HL2 hv hr3 hr3' hb HNE HNN
                  obtain ⟨p0, p1, p2, p3, p4, p5⟩ := HBG3.out.cells
                  go_wp2_with fail
                  refine (HFE.out).mono ?_
                  rintro r w4 ⟨v, rfl, hv, hb⟩
                  obtain ⟨A4, c4, rfl, hr4⟩ := hv.rd
                  have hr4' := hr4
                  rw [HFN.out] at hr4'
                  obtain ⟨fb, fo, rfl, fS⟩ := rd_boolAt hr4' (HFC.out S hS1)
                  rw [HFN.out]
                  obtain ⟨fb', fo', he, fT⟩ := rd_boolAt hr4' (HFC.out T hT1)
                  cases he
                  have HN4 := Lib.hid (HN3.out.below hb)
                  obtain ⟨nb', no', he, nS⟩ := rd_boolAt HN4.out (HNC.out S hS1)
                  cases he
                  obtain ⟨nb', no', he, nT⟩ := rd_boolAt HN4.out (HNC.out T hT1)
                  cases he
                  rw [hself] at nS
                  rw [hselt] at fT
                  have HBG4 := Lib.hid (HBG3.out.below hb)
                  have HW4 := Lib.hid (HW3.out.trans (hb.mono HW3.out.size))
                  have HL4 := Lib.hid (HL3.out.below hb)
                  clear p0 p1 p2 p3 p4 p5 HBG3 HW3 HL3 hv hr4 hr4' hb HFE HFN HN3 hself hselt HFC
                  obtain ⟨p0, p1, p2, p3, p4, p5⟩ := HBG4.out.cells
                  have hS0 : (0 : Int) ≤ S := by omega
                  have hT0 : (0 : Int) ≤ T := by omega
                  generalize hcl : cleanV N l S E S T = cl at fS nT
                  have hce : (cl != cl) = false := by simp
                  clear hcl
                  go_upto_region 8 with fail
                  go_quiet (fail)
                  have hdn := below_dN (w := w4) nq
                  have HBG5 := Lib.hid (HBG4.out.below hdn)
                  have HL5 := Lib.hid (HL4.out.below hdn)
                  have HW5 := Lib.hid (HW4.out.trans (hdn.mono HW4.out.size))
                  have HN5 := Lib.hid (HN4.out.below hdn)
                  clear p0 p1 p2 p3 p4 p5 hdn HBG4 HL4 HW4 HN4 nS nT fS fT hce
                  generalize w4.drewN nq = w5 at HBG5 HL5 HW5 HN5 ⊢
                  obtain ⟨p0, p1, p2, p3, p4, p5⟩ := HBG5.out.cells
                  have HDI := Lib.hid (rdist_any (c := c) HL5.out N S hm3)
                  go_wp2_with fail
                  refine (HDI.out).mono ?_
                  rintro rr w6 hgi
                  replace hgi := givesI_dist hgi
                  obtain ⟨A6, c6, he, hr6, hb⟩ := hgi
                  cases he
                  rw [HDL.out] at hr6 ⊢
                  obtain ⟨db, do_, rfl, -⟩ := rd_intAt hr6 (HDA.out S hS1)
                  have HD6 := Lib.hid hr6
                  have HBG6 := Lib.hid (HBG5.out.below hb)
                  have HW6 := Lib.hid (HW5.out.trans (hb.mono HW5.out.size))
                  have HL6 := Lib.hid (HL5.out.below hb)
                  have HN6 := Lib.hid (HN5.out.below hb)
                  clear p0 p1 p2 p3 p4 p5 HBG5 HW5 HL5 HN5 hr6 hb HDI HDL
                  obtain ⟨p0, p1, p2, p3, p4, p5⟩ := HBG6.out.cells
                  have HC := Lib.hid (fun w' (h : Below w6.heap.size w6 w') => show Below w6.heap.size w6 w' ∧ w'.cell? ⟨bx, 0, none⟩ = some (.int .i64 N) ∧ w'.cell? ⟨bx, 1, none⟩ = some (.slice A m c) ∧ w'.cell? ⟨bx, 2, none⟩ = some (.int .i64 S) ∧ w'.cell? ⟨bx, 3, none⟩ = some (.int .i64 E) ∧ w'.cell? ⟨bx, 4, none⟩ = some (.int .i64 T) from by
                    obtain ⟨-, q0, q1, q2, q3, q4⟩ := (HBG6.out.below h).cells
                    exact ⟨h, q0, q1, q2, q3, q4⟩)
                  have HWI := Lib.hid (fun w' (h : Below w6.heap.size w6 w') => (rwithout_any (c := c) (HL6.out.below h) S E hm3).mono fun r w'' ⟨v, he, h1, h2⟩ => show GivesL w' (withoutG l S E) r w'' by rw [he]; exact givesL_of h1 h2)
                  have HDI := Lib.hid (fun w' A1 c1 (_ : Below w6.heap.size w6 w') (hp : Rd lkc 3 w' A1 (withoutG l S E).length (withoutG l S E)) => (rdist_any (c := c1) hp N S (Nat.le_trans HWL.out hm3)).mono fun r w'' he => givesI_dist he)
                  generalize distV N (withoutG l S E) S = ev at HDI HEA HEL
                  generalize withoutG l S E = wl at HWI HDI HEA HNL HWB HAN HWL ⊢
                  go_upto_region 11 with fail
                  go_region_held3 (fun w' => Below w6.heap.size w6 w' ∧ w'.cell? ⟨bx, 0, none⟩ = some (.int .i64 N) ∧ w'.cell? ⟨bx, 1, none⟩ = some (.slice A m c) ∧ w'.cell? ⟨bx, 2, none⟩ = some (.int .i64 S) ∧ w'.cell? ⟨bx, 3, none⟩ = some (.int .i64 E) ∧ w'.cell? ⟨bx, 4, none⟩ = some (.int .i64 T))
                    (first | assumption | exact HC.out _ (by assumption) | exact HC.out _ (Below.refl _ _).drew)
                    (first
                      | (go_at_call 26; (with_reducible refine (HWI.out _ (And.left (by assumption))).mono ?_); rintro r wA ⟨A4, c4, rfl, hrD, hbA⟩; have HRD := Lib.hid hrD; clear hrD; have hchA := below_step (And.left (by assumption)) hbA)
                      | (go_at_call 17; (with_reducible refine (HDI.out _ _ _ (And.left (by assumption)) HRD.out).mono ?_); rintro r wA ⟨A5, c5, rfl, hrD, hbA⟩; have HR5 := Lib.hid hrD; clear hrD; have hchA := below_step (And.left (by assumption)) hbA))
                  all_goals
                    have HE7 := HR5
                    rw [HEL.out] at HE7 ⊢
                    obtain ⟨eb, eo, rfl, -⟩ := rd_intAt HE7.out (HEA.out S hS1)
                    have HBG7 := Lib.hid (HBG6.out.below hchA)
                    have HL7 := Lib.hid (HL6.out.below hchA)
                    have HW7 := Lib.hid (HW6.out.trans (hchA.mono HW6.out.size))
                    have HN7 := Lib.hid (HN6.out.below hchA)
                    have HD7 := Lib.hid (HD6.out.below hchA)
                    clear p0 p1 p2 p3 p4 p5 HC HBG6 HL6 HW6 HN6 HD6 HWI HDI HR5 HRD hchA HEL HWL
                    have HB0 := Lib.hid (Below.refl wA.heap.size wA)
                    go_wp2_with fail
                    go_loopw [8] (fun v wr => ∃ j : Nat, j ≤ N ∧ v = .int .i64 j ∧ Below wA.heap.size wA wr) (fun v _ => N - (intOf v).toNat)
                    case atStart => exact ⟨0, Nat.zero_le _, rfl, HB0.out⟩
                    case round =>
                      obtain ⟨j, hj, rfl, hbr⟩ := hrel
                      have HB := Lib.hid hbr
                      clear hbr HB0
                      obtain ⟨p0, p1, p2, p3, p4, p5⟩ := (HBG7.out.below HB.out).cells
                      have hj0 : (0 : Int) ≤ j := by omega
                      by_cases hlt : j < N
                      · have hj1 : (j : Int) < N := by omega
                        have HB2 := Lib.hid (fun q => HB.out.trans ((below_dN (w := wr) q).mono HB.out.size))
                        obtain ⟨nb', no', he, cn⟩ := rd_boolAt (HN7.out.below HB.out) (HNC.out j hj1)
                        cases he
                        obtain ⟨db', do', he, cd⟩ := rd_intAt (HD7.out.below HB.out) (HDA.out j hj1)
                        cases he
                        obtain ⟨eb', eo', he, ce⟩ := rd_intAt (HE7.out.below HB.out) (HEA.out j hj1)
                        cases he
                        have hnl := HNL.out j hj1
                        generalize D wl (S : Int) j = ej at ce hnl
                        generalize D l (S : Int) j = dj at cd hnl
                        cases hq : cleanV N l S E S j with
                        | true =>
                          rw [hq] at cn
                          have := hnl hq
                          subst this
                          have hdd : (ej != ej) = false := by simp
                          clear hnl hq
                          go_wp2_with fail
                          go_quiet (fail)
                          go_wp2_with fail
                          go_roundw
                          case rel => exact ⟨j + 1, by omega, by go_num, HB2.out _⟩
                          case measure => simp [intOf]; omega
                        | false =>
                          rw [hq] at cn
                          clear hnl hq
                          go_wp2_with fail
                          go_quiet (fail)
                          go_wp2_with fail
                          go_roundw
                          case rel => exact ⟨j + 1, by omega, by go_num, HB2.out _⟩
                          case measure => simp [intOf]; omega
                      · obtain rfl : N = j := by omega
                        have hge : ¬ (N : Int) < N := by omega
                        have HLr := Lib.hid (HL7.out.below HB.out)
                        have HBGr := Lib.hid (HBG7.out.below HB.out)
                        have HWr := Lib.hid (HW7.out.trans (HB.out.mono HW7.out.size))
                        have HDr := Lib.hid (HD7.out.below HB.out)
                        have HST := Lib.hid (steps_any (c := c) HLr.out N S E T hm3)
                        rw [HAN.out] at HST
                        clear HBG7 HL7 HW7 HN7 HD7 HE7 HNL HNC HEA HAN HB
                        go_wp2_with fail
                        refine (HST.out).mono ?_
                        rintro rr w8 ⟨v, rfl, hv, hb⟩
                        obtain ⟨A8, c8, rfl, hr8⟩ := hv.rd
                        have HS8 := Lib.hid hr8
                        have HBG8 := Lib.hid (HBGr.out.below hb)
                        have HL8 := Lib.hid (HLr.out.below hb)
                        have HW8 := Lib.hid (HWr.out.trans (hb.mono HWr.out.size))
                        have HD8 := Lib.hid (HDr.out.below hb)
                        clear p0 p1 p2 p3 p4 p5 HBGr HLr HWr HDr hv hr8 hb HST
                        obtain ⟨p0, p1, p2, p3, p4, p5⟩ := HBG8.out.cells
                        have HC := Lib.hid (fun w' (h : Below w8.heap.size w8 w') => show Below w8.heap.size w8 w' ∧ w'.cell? ⟨bx, 0, none⟩ = some (.int .i64 N) ∧ w'.cell? ⟨bx, 1, none⟩ = some (.slice A m c) ∧ w'.cell? ⟨bx, 2, none⟩ = some (.int .i64 S) ∧ w'.cell? ⟨bx, 3, none⟩ = some (.int .i64 E) ∧ w'.cell? ⟨bx, 4, none⟩ = some (.int .i64 T) from by
                          obtain ⟨-, q0, q1, q2, q3, q4⟩ := (HBG8.out.below h).cells
                          exact ⟨h, q0, q1, q2, q3, q4⟩)
                        have HWK := Lib.hid (fun w' (h : Below w8.heap.size w8 w') => (walk_any (c := c) (q := c8) (HL8.out.below h) N S T hm3 (HS8.out.below h) (Nat.le_trans L1.out (by decide))).mono fun r w'' ⟨v, he, h1, h2⟩ => show GivesI w' (walkV N l S T (stepsR N l S E T)) r w'' by rw [he]; exact givesI_of h1 h2)
                        generalize walkV N l S T (stepsR N l S E T) = wv at HWK HWB LW
                        have HCO := Lib.hid (fun w' A9 c9 (h : Below w8.heap.size w8 w') (hp : Rd intc 1 w' A9 wv.length wv) => (rcostb_any (c := c) (d := c9) (HL8.out.below h) hp HSG.out hm3 (Nat.le_trans LW.out (by have := L1.out; omega))).mono fun r w'' (he : r = _ ∧ Below w'.heap.size w' w'') => show r = .returned (.tuple #[.int .i64 ((costG l wv).getD 0), .bool (costG l wv).isSome]) ∧ _ from ⟨he.1, below_step h he.2⟩)
                        generalize (costG l wv).getD 0 = cz at HCO HWB
                        generalize (costG l wv).isSome = wy at HCO HWB
                        go_upto_region 18 with fail
                        go_region_held3 (fun w' => Below w8.heap.size w8 w' ∧ w'.cell? ⟨bx, 0, none⟩ = some (.int .i64 N) ∧ w'.cell? ⟨bx, 1, none⟩ = some (.slice A m c) ∧ w'.cell? ⟨bx, 2, none⟩ = some (.int .i64 S) ∧ w'.cell? ⟨bx, 3, none⟩ = some (.int .i64 E) ∧ w'.cell? ⟨bx, 4, none⟩ = some (.int .i64 T))
                          (first | assumption | exact HC.out _ (by assumption) | exact HC.out _ (Below.refl _ _).drew)
                          (first
                            | (go_at_call 41; (with_reducible refine (HWK.out _ (And.left (by assumption))).mono ?_); rintro r wA ⟨A9, c9, rfl, hrD, hbA⟩; have HRD := Lib.hid hrD; clear hrD; have hchA := below_step (And.left (by assumption)) hbA)
                            | (go_at_call 23; (with_reducible refine (HCO.out _ _ _ (And.left (by assumption)) HRD.out).mono ?_); rintro r wA ⟨rfl, hchA⟩))
                        all_goals
                          have HBF := Lib.hid (HW8.out.trans (hchA.mono HW8.out.size))
                          obtain ⟨-, z0, z1, z2, z3, z4⟩ := HC.out _ hchA
                          obtain ⟨db', do', he, cd⟩ := rd_intAt (HD8.out.below hchA) (HDA.out T hT1)
                          cases he
                          clear p0 p1 p2 p3 p4 p5 HC HBG8 HL8 HW8 HD8 HWK HCO HRD
                          generalize D wl (S : Int) T = dt at HWB ⊢
                          generalize D l (S : Int) T = d0 at HWB cd
                          by_cases h0 : 0 ≤ dt
                          · obtain ⟨hwy, hle⟩ := HWB.out h0
                            subst hwy
                            have hd1 : decide (0 ≤ dt) = true := decide_eq_true h0
                            have hd2 : decide (cz ≥ d0) = true := decide_eq_true hle
                            clear h0 hle HWB
                            go_wp2_with fail
                            go_ret
                            exact ⟨rfl, by have := HBX.out; subst this; exact HBF.out⟩
                          · have hd1 : decide (0 ≤ dt) = false := decide_eq_false h0
                            clear h0 HWB
                            go_wp2_with fail
                            go_ret
                            exact ⟨rfl, by have := HBX.out; subst this; exact HBF.out⟩
  · have hm2 : decide ((m : Int) > 30) = true := decide_eq_true (by omega)
    go_wp2_with fail
    go_ret
    exact ⟨rfl, by have := HBX.out; subst this; exact HW1.out⟩
end Go.Proofs.Ytmdcfiejkbhgpaa
