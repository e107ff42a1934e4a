/-
  repair.Steps, walked.
-/
import Derived.Test.YtmdcfiejkbhgpaaRepB
import Derived.WalkMore
import Derived.Deep.RegionLaw
import Derived.Test.YtmdcfiejkbhgpaaRepC
import Derived.Handy
namespace Go.Proofs.Ytmdcfiejkbhgpaa
open Go.RowKit

/-- a step put behind a row of the call's own, in a region that draws -/
theorem step_st {ops : Array Oper} {o : Oper} {a : Act} {w : World} {K : Act → World → Prop} {Q : Exit → Act → World → Prop} {E : Prop} (hgd : o.guard = none) (s x : Operand)
    (ho : o.op = .call { callee := .builtin .append, args := #[s, x], argTypes := #[49, 49] })
    (B : Nat) (v : Value) (l : List St) (z : St) (hs : a.eval s = v) (hown : StsAt 80 w B v l) (b : Nat) (hx : a.eval x = .slice (some ⟨b, 0, none⟩) 1 1) (hr : ∀ j u, (stc z)[j]? = some u → w.cell? ((⟨b, 0, none⟩ : Addr).add j) = some u)
    (hsz : l.length ≤ 1000000) (hB : B ≤ w.heap.size)
    (h : ∀ v' w', StsAt 80 w' B v' (l ++ [z]) → w.grownBy w' v.ownBlock → K (a.put o.dst v') w') :
    if Region.wanted o (yielded ops a.tmps) = true then Oper.wp Try.prog o a w K Q else E := by
  have hw : Region.wanted o (yielded ops a.tmps) = true := by simp [Region.wanted, hgd]
  rw [if_pos hw]
  obtain ⟨i0, hi, hz0, hz1, hz2⟩ := info_parts Try.info_step
  obtain ⟨v', w', hrun, hown', hg, -, -⟩ := run_append_own_at (P := Try.prog) w B 49 o.type 80 i0 (.agg #[.bool false, .int .i64 0, .int .i64 0]) 3 24 Try.underlying49 hi hz0 hz1 hz2 rfl (by decide) v l.length _ hown ⟨b, 0, none⟩ 1 1 (stc z) rfl hr (stc_one z) (by unfold maxLen; omega) (by omega) hB
  unfold Oper.wp
  simp [execOp, ho, resolve, invoke, builtin, hs, hx, hrun, Result.andThen]
  refine h v' w' ?_ hg
  unfold StsAt
  rw [flatE_append, List.length_append]
  have e : flatE stc [z] = stc z := by simp [flatE]
  rw [e]
  exact hown'

set_option maxRecDepth 100000 in
set_option maxHeartbeats 8000000 in
theorem steps_any {w : World} {A : Option Addr} {m c : Nat} {l : List Lk} (hr : Rd lkc 3 w A m l) (n s e d : Int) (hm : m ≤ 1000) :
    Calls Try.prog 37 #[.int .i64 n, .slice A m c, .int .i64 s, .int .i64 e, .int .i64 d] w fun r w' => ∃ v, r = .returned (.tuple #[v, .bool (decide (afterV n l s e d ≠ []))]) ∧ StsAt 80 w' w.heap.size v (stepsR n l s e d) ∧ Below w.heap.size w w' := by
  have HAF := Lib.hid (after_any (c := c) hr n s e d hm)
  have HL := Lib.hid hr
  clear hr
  by_cases hw : afterV n l s e d = []
  · have HD := Lib.hid (show decide (afterV n l s e d ≠ []) = false by simp [hw])
    have HE := Lib.hid (show stepsR n l s e d = [] by unfold stepsR; rw [if_pos hw])
    rw [hw] at HAF
    clear hw
    go_enter Try.func37, Try.ntmps37
    go_wp2_with fail
    go_step3
    go_wp2_with fail
    refine (HAF.out).mono ?_
    rintro r w1 ⟨v, rfl, hv, hb1⟩
    obtain ⟨G, gc, rfl, -⟩ := hv.rd
    have HB1 := Lib.hid hb1
    clear hv hb1
    go_wp2_with fail
    rw [Exit.noGoto_ret]
    go_ret2
    rw [HD.out]
    exact ⟨_, rfl, by rw [HE.out]; exact stsAt_nil _ _, HB1.out⟩
  · have HD := Lib.hid (show decide (afterV n l s e d ≠ []) = true by simp [hw])
    have HE := Lib.hid (show stepsR n l s e d = stepsV (cleanV n l s e) (afterV n l s e d) d by unfold stepsR; rw [if_neg hw])
    obtain ⟨hgk, hd, hrg, hend, hlen⟩ := way_facts hw
    have HGK := Lib.hid hgk
    have HRG := Lib.hid hrg
    have HEND := Lib.hid hend
    have HDR := Lib.hid hd
    have HSF := Lib.hid (clean_self hgk s e (d := d))
    have HST := Lib.hid (stepInv_start (cl := cleanV n l s e) (d := d) hw)
    have HK0 := Lib.hid (List.length_pos_iff.2 hw)
    clear hgk hrg hend hd hw
    generalize afterV n l s e d = way at *
    go_enter Try.func37, Try.ntmps37
    go_wp2_with fail
    go_step3
    go_wp2_with fail
    refine (HAF.out).mono ?_
    rintro r w1 ⟨v, rfl, hv, hb1⟩
    obtain ⟨G, gc, rfl, hrd⟩ := hv.rd
    have HB1 := Lib.hid hb1
    have HWY := Lib.hid hrd
    have hk0 := HK0.out
    clear hv hb1 HAF hrd
    generalize hK : way.length = K at HEND HRG HWY hlen hk0 ⊢
    have HKW := Lib.hid hK
    clear hK
    have hne : ((K : Int) == 0) = false := by simp; omega
    go_wp2_with fail
    go_step3
    go_wp2_with fail
    have HBV := Lib.hid (show BoxV (w1.alloc (.cells #[.int .i64 n, .slice A m c, .int .i64 s, .int .i64 e] 74)) w1.heap.size n A m c s e from heap_alloc_new _ _)
    have hal := below_al1 w1 (.cells #[.int .i64 n, .slice A m c, .int .i64 s, .int .i64 e] 74)
    have HB2 := Lib.hid (HB1.out.trans (hal.mono HB1.out.size))
    have HL2 := Lib.hid (HL.out.below HB2.out)
    have HW2 := Lib.hid (HWY.out.below hal)
    clear hal HB1 HWY
    generalize w1.heap.size = bv at HBV ⊢
    generalize World.alloc _ _ = w2 at HBV HB2 HL2 HW2 ⊢
    have HB0 := Lib.hid (Below.refl w2.heap.size w2)
    go_loopw [14, 15] (fun o v wr => ∃ (i : Nat) (pre : List St), v = .int .i64 i ∧ StepInv (cleanV n l s e) way d pre i ∧ StsAt 80 wr w2.heap.size o pre ∧ Below w2.heap.size w2 wr) (fun _ v _ => K - (intOf v).toNat)
    case atStart => exact ⟨0, [], rfl, HST.out, stsAt_nil _ _, HB0.out⟩
    case round =>
      obtain ⟨wo, rfl⟩ : ∃ wo, wo = wr := ⟨_, rfl⟩
      obtain ⟨vo, rfl⟩ : ∃ vo, vo = u14 := ⟨_, rfl⟩
      obtain ⟨i, pre, rfl, hinv, hown, hbr⟩ := hrel
      have HI := Lib.hid hinv
      have HO := Lib.hid hown
      have HB := Lib.hid hbr
      have hik : i < K := by have h1 := HKW.out; have h2 := hinv.1; omega
      have hi0 : (0 : Int) ≤ i := by omega
      have hi1 : (i : Int) < K := by omega
      obtain ⟨x, gb, go, hx, rfl, hcell⟩ := (HW2.out.below hbr).at_ hik
      have hxe : wAt way i = x := getD_of hx
      have c0 := hcell 0 _ rfl
      rw [Nat.add_zero, Nat.mul_one] at c0
      have hxr := HRG.out i hik
      rw [hxe] at hxr
      obtain ⟨p0, p1, p2, p3, p4⟩ := (HBV.out.below hbr).cells
      have HCD := Lib.hid (fun w' (h : Below wo.heap.size wo w') => (clean_any (c := c) (HL2.out.below (HB.out.trans (h.mono HB.out.size))) HGK.out s e hxr HDR.out hm).mono fun r w'' (he : r = _ ∧ Below w'.heap.size w' w'') => And.intro he.1 (below_step h he.2))
      have HKP := Lib.hid (fun w' (h : Below wo.heap.size wo w') => show Below wo.heap.size wo w' ∧ w'.cell? ⟨bv, 0, none⟩ = some (.int .i64 n) ∧ w'.cell? ⟨bv, 1, none⟩ = some (.slice A m c) ∧ w'.cell? ⟨bv, 2, none⟩ = some (.int .i64 s) ∧ w'.cell? ⟨bv, 3, none⟩ = some (.int .i64 e) ∧ w'.cell? ⟨gb, go + i, none⟩ = some (.int .i64 x) from
        ⟨h, (h.cell (p := ⟨bv, 0, none⟩) p0).trans p1, (h.cell (p := ⟨bv, 1, none⟩) p0).trans p2, (h.cell (p := ⟨bv, 2, none⟩) p0).trans p3, (h.cell (p := ⟨bv, 3, none⟩) p0).trans p4, (h.cell (World.block_lt_of_cell? wo _ c0)).trans c0⟩)
      have HXE := Lib.hid hxe
      clear hinv hown hbr hcell hx hxe HB0 HST
      go_upto_region 7 with fail
      cases hcl : cleanV n l s e x d with
      | true =>
        have HFI := Lib.hid (HI.out.stop (by rw [HXE.out]; exact hcl))
        rw [hcl] at HCD
        clear hcl
        go_region_held3 (fun w' => Below wo.heap.size wo w' ∧ w'.cell? ⟨bv, 0, none⟩ = some (.int .i64 n) ∧ w'.cell? ⟨bv, 1, none⟩ = some (.slice A m c) ∧ w'.cell? ⟨bv, 2, none⟩ = some (.int .i64 s) ∧ w'.cell? ⟨bv, 3, none⟩ = some (.int .i64 e) ∧ w'.cell? ⟨gb, go + i, none⟩ = some (.int .i64 x))
          (first | assumption | exact HKP.out _ (by assumption) | exact HKP.out _ (Below.refl _ _).drew)
          (first | (go_at_call 60; (with_reducible refine (HCD.out _ (And.left (by assumption))).mono ?_); rintro r wA ⟨rfl, hchA⟩))
        have HCH := Lib.hid hchA
        clear hchA
        go_wp2_with fail
        rw [Exit.noGoto_ret]
        go_ret2
        rw [HD.out]
        exact ⟨_, rfl, by rw [HE.out, ← HFI.out]; exact own_mono (HO.out.below HCH.out) HB2.out.size, HB2.out.trans ((HB.out.trans (HCH.out.mono HB.out.size)).mono HB2.out.size)⟩
      | false =>
        rw [hcl] at HCD
        have hi2 : i + 1 < K := by
          by_cases h9 : i + 1 = K
          · have h8 := HEND.out i h9
            rw [HXE.out] at h8
            have h7 := HSF.out
            rw [h8] at hcl
            rw [h7] at hcl
            cases hcl
          · omega
        have HCL := Lib.hid hcl
        clear hcl
        go_region_held3 (fun w' => Below wo.heap.size wo w' ∧ w'.cell? ⟨bv, 0, none⟩ = some (.int .i64 n) ∧ w'.cell? ⟨bv, 1, none⟩ = some (.slice A m c) ∧ w'.cell? ⟨bv, 2, none⟩ = some (.int .i64 s) ∧ w'.cell? ⟨bv, 3, none⟩ = some (.int .i64 e) ∧ w'.cell? ⟨gb, go + i, none⟩ = some (.int .i64 x))
          (first | assumption | exact HKP.out _ (by assumption) | exact HKP.out _ (Below.refl _ _).drew)
          (first | (go_at_call 60; (with_reducible refine (HCD.out _ (And.left (by assumption))).mono ?_); rintro r wA ⟨rfl, hchA⟩))
        have HCH := Lib.hid hchA
        clear hchA HKP p0 p1 p2 p3 p4 c0 HCD
        go_wp2_with fail
        have HNK := Lib.hid (show ∀ j, K - 1 < j → j < K → cleanV n l s e x (wAt way j) = false from fun j h1 h2 => absurd h2 (by omega))
        go_loopw [14, 15, 16] (fun o iv v wx => ∃ k : Nat, o = vo ∧ iv = .int .i64 i ∧ i ≤ k ∧ k < K ∧ v = .int .i64 k ∧ Below wo.heap.size wo wx ∧ ∀ j, k < j → j < K → cleanV n l s e x (wAt way j) = false) (fun _ _ v _ => (intOf v).toNat)
        case atStart => exact ⟨K - 1, rfl, rfl, by omega, by omega, by rw [show ((K - 1 : Nat) : Int) = (K : Int) - 1 by omega], HCH.out, HNK.out⟩
        case round =>
          obtain ⟨k, rfl, rfl, hki, hkK, rfl, hbx, hno⟩ := hrel
          have HBX := Lib.hid hbx
          have HNO := Lib.hid hno
          have HBR := Lib.hid (HB.out.trans (hbx.mono HB.out.size))
          obtain ⟨y, gb', go', hy, he, hcy⟩ := (HW2.out.below HBR.out).at_ hkK
          obtain ⟨x', gb'', go'', hx, he', hcx⟩ := (HW2.out.below HBR.out).at_ hik
          cases he
          cases he'
          have hxx : x' = x := by rw [← HXE.out]; exact (getD_of hx).symm
          subst hxx
          have hye : wAt way k = y := getD_of hy
          have c0 := hcx 0 _ rfl
          have c1 := hcy 0 _ rfl
          rw [Nat.add_zero, Nat.mul_one] at c0 c1
          have hyr := HRG.out k hkK
          rw [hye] at hyr
          have hk0' : (0 : Int) ≤ k := by omega
          have hk1' : (k : Int) < K := by omega
          obtain ⟨p0, p1, p2, p3, p4⟩ := (HBV.out.below HBR.out).cells
          have HYE := Lib.hid hye
          have HOR := Lib.hid (HO.out.below hbx)
          have hlp : pre.length ≤ 1000000 := by have := HI.out.2.1; omega
          clear hy hx hcx hcy hye hbx hno HNK
          by_cases hgt : i < k
          · have hgt1 : (i : Int) < k := by omega
            have hgt2 : (k : Int) > i := by omega
            have HCD := Lib.hid (fun w' (h : Below wr.heap.size wr w') => (clean_any (c := c) (HL2.out.below (HBR.out.trans (h.mono HBR.out.size))) HGK.out s e hxr hyr hm).mono fun r w'' (he : r = _ ∧ Below w'.heap.size w' w'') => And.intro he.1 (below_step h he.2))
            have HKP := Lib.hid (fun w' (h : Below wr.heap.size wr w') => show Below wr.heap.size wr w' ∧ w'.cell? ⟨bv, 0, none⟩ = some (.int .i64 n) ∧ w'.cell? ⟨bv, 1, none⟩ = some (.slice A m c) ∧ w'.cell? ⟨bv, 2, none⟩ = some (.int .i64 s) ∧ w'.cell? ⟨bv, 3, none⟩ = some (.int .i64 e) ∧ w'.cell? ⟨gb, go + i, none⟩ = some (.int .i64 x') ∧ w'.cell? ⟨gb, go + k, none⟩ = some (.int .i64 y) from
              ⟨h, (h.cell (p := ⟨bv, 0, none⟩) p0).trans p1, (h.cell (p := ⟨bv, 1, none⟩) p0).trans p2, (h.cell (p := ⟨bv, 2, none⟩) p0).trans p3, (h.cell (p := ⟨bv, 3, none⟩) p0).trans p4, (h.cell (World.block_lt_of_cell? wr _ c0)).trans c0, (h.cell (World.block_lt_of_cell? wr _ c1)).trans c1⟩)
            go_upto_region 11 with fail
            cases hc2 : cleanV n l s e x' y with
            | true =>
              have HOP := Lib.hid (hop_found hgt (by rw [HKW.out]; exact hkK) (cl := cleanV n l s e) (way := way) (by rw [HXE.out, HYE.out]; exact hc2) (fun j h1 h2 => by rw [HXE.out]; exact HNO.out j h1 (by rw [← HKW.out]; exact h2)))
              have HGO := Lib.hid (HI.out.go (by rw [HXE.out]; exact HCL.out) HOP.out hgt (by rw [HKW.out]; exact hkK))
              rw [HXE.out, HYE.out] at HGO
              rw [hc2] at HCD
              clear hc2
              go_region_held3 (fun w' => Below wr.heap.size wr w' ∧ w'.cell? ⟨bv, 0, none⟩ = some (.int .i64 n) ∧ w'.cell? ⟨bv, 1, none⟩ = some (.slice A m c) ∧ w'.cell? ⟨bv, 2, none⟩ = some (.int .i64 s) ∧ w'.cell? ⟨bv, 3, none⟩ = some (.int .i64 e) ∧ w'.cell? ⟨gb, go + i, none⟩ = some (.int .i64 x') ∧ w'.cell? ⟨gb, go + k, none⟩ = some (.int .i64 y))
                (first | assumption | exact HKP.out _ (by assumption) | exact HKP.out _ (Below.refl _ _).drew)
                (first | (go_at_call 60; (with_reducible refine (HCD.out _ (And.left (by assumption))).mono ?_); rintro r wA ⟨rfl, hchA⟩))
              have HCH2 := Lib.hid hchA
              obtain ⟨-, r0, r1, r2, r3, r4, r5⟩ := HKP.out _ hchA
              have HO2 := Lib.hid (HOR.out.below hchA)
              have HBA := Lib.hid (HBR.out.trans (hchA.mono HBR.out.size))
              clear hchA p0 p1 p2 p3 p4 c0 c1 HKP HCD
              have hki0 : (0 : Int) ≤ k := by omega
              go_upto_region 12 with fail
              have hal := below_al1 wA (.cells #[.bool false, .int .i64 x', .int .i64 y] 80)
              have HO3 := Lib.hid ((HO2.out.below hal).below (below_dN 1))
              have HBD := Lib.hid ((HBA.out.trans (hal.mono HBA.out.size)).trans ((below_dN (w := wA.alloc (.cells #[.bool false, .int .i64 x', .int .i64 y] 80)) 1).mono (HBA.out.trans (hal.mono HBA.out.size)).size))
              have HN1 := Lib.hid (one_st wA ⟨false, x', y⟩ 80)
              clear hal
              go_region_law (refine step_st rfl (.tmp 57) (.tmp 67) rfl w2.heap.size u14 pre ⟨false, x', y⟩ (by go_simp) HO3.out wA.heap.size (by go_simp) HN1.out hlp HBD.out.size ?_; intro v2 w5 hown2 hg2)
              all_goals
                have HO4 := Lib.hid hown2
                have HB4 := Lib.hid (stsAt_app HBD.out HO3.out hg2)
                clear hown2 hg2
                go_wp2_with fail
                exact ⟨⟨k, pre ++ [⟨false, x', y⟩], rfl, HGO.out, HO4.out, HB4.out⟩, by simp [intOf]; omega⟩
            | false =>
              rw [hc2] at HCD
              have HC2 := Lib.hid hc2
              clear hc2
              go_region_held3 (fun w' => Below wr.heap.size wr w' ∧ w'.cell? ⟨bv, 0, none⟩ = some (.int .i64 n) ∧ w'.cell? ⟨bv, 1, none⟩ = some (.slice A m c) ∧ w'.cell? ⟨bv, 2, none⟩ = some (.int .i64 s) ∧ w'.cell? ⟨bv, 3, none⟩ = some (.int .i64 e) ∧ w'.cell? ⟨gb, go + i, none⟩ = some (.int .i64 x') ∧ w'.cell? ⟨gb, go + k, none⟩ = some (.int .i64 y))
                (first | assumption | exact HKP.out _ (by assumption) | exact HKP.out _ (Below.refl _ _).drew)
                (first | (go_at_call 60; (with_reducible refine (HCD.out _ (And.left (by assumption))).mono ?_); rintro r wA ⟨rfl, hchA⟩))
              have HCH2 := Lib.hid (HBX.out.trans (hchA.mono HBX.out.size))
              have HN2 := Lib.hid (show ∀ j, k - 1 < j → j < K → cleanV n l s e x' (wAt way j) = false from fun j h1 h2 => by
                by_cases e1 : j = k
                · rw [e1, HYE.out]; exact HC2.out
                · exact HNO.out j (by omega) h2)
              clear hchA p0 p1 p2 p3 p4 c0 c1 HKP HCD
              go_wp2
              go_roundw
              case rel => exact ⟨k - 1, rfl, rfl, by omega, by omega, by rw [show ((k - 1 : Nat) : Int) = (k : Int) - 1 by omega], HCH2.out, HN2.out⟩
              case measure => simp [intOf]; omega
          · obtain rfl : k = i := by omega
            have hyx : x' = y := by rw [← HYE.out, HXE.out]
            subst hyx
            clear c1
            have hge : ¬ (k : Int) > k := by omega
            have HOP := Lib.hid (hop_none (cl := cleanV n l s e) (way := way) (i := k) (fun j h1 h2 => by rw [HXE.out]; exact HNO.out j h1 (by rw [← HKW.out]; exact h2)))
            have HGO := Lib.hid (HI.out.go (by rw [HXE.out]; exact HCL.out) HOP.out (by omega) (by rw [HKW.out]; exact hi2))
            obtain ⟨y2, gb2, go2, hy2, he2, hcy2⟩ := (HW2.out.below HBR.out).at_ hi2
            cases he2
            have c2 := hcy2 0 _ rfl
            rw [Nat.add_zero, Nat.mul_one] at c2
            have hye2 : wAt way (k + 1) = y2 := getD_of hy2
            have hk2 : (k : Int) + 1 < K := by omega
            have hk3 : (0 : Int) ≤ (k : Int) + 1 := by omega
            have hk4 : ((k : Int) + 1).toNat = k + 1 := by omega
            have hk5 : IntKind.i64.wrap ((k : Int) + 1) = (k : Int) + 1 := IntWalk.i64_in _ (by omega)
            rw [hye2, HXE.out] at HGO
            clear hy2 hcy2 hye2
            go_upto_region 14 with fail
            have hal := below_al1 wr (.cells #[.bool true, .int .i64 x', .int .i64 y2] 80)
            have HO3 := Lib.hid ((HOR.out.below hal).below (below_dN 1))
            have HBD := Lib.hid ((HBR.out.trans (hal.mono HBR.out.size)).trans ((below_dN (w := wr.alloc (.cells #[.bool true, .int .i64 x', .int .i64 y2] 80)) 1).mono (HBR.out.trans (hal.mono HBR.out.size)).size))
            have HN1 := Lib.hid (one_st wr ⟨true, x', y2⟩ 80)
            clear hal
            go_region_law (refine step_st rfl (.tmp 70) (.tmp 81) rfl w2.heap.size u14 pre ⟨true, x', y2⟩ (by go_simp) HO3.out wr.heap.size (by go_simp) HN1.out hlp HBD.out.size ?_; intro v2 w5 hown2 hg2)
            all_goals
              have HO4 := Lib.hid hown2
              have HB4 := Lib.hid (stsAt_app HBD.out HO3.out hg2)
              clear hown2 hg2
              go_wp2_with fail
              exact ⟨⟨k + 1, pre ++ [⟨true, x', y2⟩], by go_num, HGO.out, HO4.out, HB4.out⟩, by simp [intOf]; omega⟩
end Go.Proofs.Ytmdcfiejkbhgpaa
/-
  repair.Walk, walked. (Printed by genwalk.py.)
-/
namespace Go.Proofs.Ytmdcfiejkbhgpaa
open Go.RowKit

/-- block p is a number's box -/
def BoxI (W : World) (p : Nat) (x : Int) : Prop := W.heap[p]? = some (.cells #[.int .i64 x] 3 (0, 0))
section
variable {W W' : World} {p : Nat} {x : Int}
theorem BoxI.lt (h : BoxI W p x) : p < W.heap.size := (Array.getElem?_eq_some_iff.1 h).1
theorem BoxI.cell (h : BoxI W p x) : W.cell? ⟨p, 0, none⟩ = some (.int .i64 x) := by
  have h' : W.heap[p]? = _ := h
  rw [cell_of_row _ _ _ _ _ (0, 0) h']; rfl
theorem BoxI.frozen (h : BoxI W p x) : W.frozen? ⟨p, 0, none⟩ = false := frozen_of_row W p 0 _ _ h
theorem BoxI.below (h : BoxI W p x) (hb : Below W.heap.size W W') : BoxI W' p x := (hb.block p h.lt).trans h
theorem BoxI.set (h : BoxI W p x) (y : Int) : BoxI (W.setCell ⟨p, 0, none⟩ (.int .i64 y)) p y := by
  obtain ⟨hlt, hk⟩ := Array.getElem?_eq_some_iff.1 h
  show (W.heap.modify p _)[p]? = _
  rw [Array.getElem?_eq_getElem (by rw [Array.size_modify]; exact hlt), Array.getElem_modify_self, hk]
  rfl
theorem grownBy_set (W : World) (b : Nat) (v : Value) : W.grownBy (W.setCell ⟨b, 0, none⟩ v) (some b) :=
  ⟨rfl, rfl, rfl, (by simp [World.setCell]), fun k _ hk => Below.heap_setCell _ _ _ k (fun e => hk (by rw [e]))⟩
theorem IntsAt.set {v : Value} {B : Nat} {l : List Int} (h : IntsAt W B v l) (hp : p < B) (u : Value) : IntsAt (W.setCell ⟨p, 0, none⟩ u) B v l :=
  World.ownsRow.kept h (grownBy_set W p u) (.inr fun e => by have := (World.ownsRow.lt h p e).1; omega)
end

set_option maxRecDepth 100000 in
theorem walk1_any {w : World} {a d : Nat} {x y : Int} (ha : w.cell? ⟨a, 0, none⟩ = some (.int .i64 x)) (hd : w.cell? ⟨d, 0, none⟩ = some (.int .i64 y)) (hal : a < w.heap.size) (hdl : d < w.heap.size) :
    Calls Try.prog 64 #[.pointer (some ⟨a, 0, none⟩), .pointer (some ⟨d, 0, none⟩)] w fun r w' => r = .returned (.agg #[.bool false, .int .i64 x, .int .i64 y]) ∧ Below w.heap.size w w' := by
  go_enter Try.func64, Try.ntmps64
  go_wp2_with fail
  go_returns
  exact ⟨rfl, by go_grown⟩

set_option maxRecDepth 100000 in
set_option maxHeartbeats 8000000 in
theorem walk_any {w : World} {A E : Option Addr} {m c k q : Nat} {l : List Lk} {xs : List St} (hr : Rd lkc 3 w A m l) (n s d : Int) (hm : m ≤ 1000) (hx : Rd stc 3 w E k xs) (hk : k ≤ 1000) :
    Calls Try.prog 41 #[.int .i64 n, .slice A m c, .int .i64 s, .int .i64 d, .slice E k q] w fun r w' => ∃ v, r = .returned v ∧ IntsAt w' w.heap.size v (walkV n l s d xs) ∧ Below w.heap.size w w' := by
  have hal : Below w.heap.size w ((w.alloc (.cells #[.int .i64 d] 3)).alloc (.cells #[.int .i64 n, .slice A m c, .int .i64 s, .int .i64 d] 74)) := by go_grown
  have hsz3 : w.heap.size + 2 ≤ ((w.alloc (.cells #[.int .i64 d] 3)).alloc (.cells #[.int .i64 n, .slice A m c, .int .i64 s, .int .i64 d] 74)).heap.size := by simp
  have hv0 : IntsAt ((w.alloc (.cells #[.int .i64 d] 3)).alloc (.cells #[.int .i64 n, .slice A m c, .int .i64 s, .int .i64 d] 74)) (w.heap.size + 2) (.slice none 0 0) [] := by exact intsAt_nil _ _
  have HRI := Lib.hid (vright_any (c := c) (hr.below hal) n s d hm hv0 (by simp) hsz3)
  have hbd : BoxI ((w.alloc (.cells #[.int .i64 d] 3)).alloc (.cells #[.int .i64 n, .slice A m c, .int .i64 s, .int .i64 d] 74)) w.heap.size d := (Below.heap_alloc _ _ _ (by simp)).trans (heap_alloc_new w _)
  rw [show ([] ++ [s, d] : List Int) = [s, d] from rfl, rightV_two] at HRI
  have HALB := Lib.hid hal
  have HBD := Lib.hid hbd
  have HL := Lib.hid hr
  have HX := Lib.hid hx
  have HXL := Lib.hid hx.1
  clear hr hx hv0 hbd
  cases hg : (rightG n l s && rightG n l d) with
  | false =>
    have HE := Lib.hid (show walkV n l s d xs = [] by unfold walkV; rw [if_neg (by rw [hg]; simp)])
    rw [hg] at HRI
    clear hg
    go_enter Try.func41, Try.ntmps41
    go_wp2_with fail
    refine (HRI.out).mono ?_
    rintro r w1 ⟨rfl, hb1⟩
    have HB1 := Lib.hid (hal.trans (hb1.mono (by omega)))
    clear hb1
    go_wp2_with fail
    go_ret
    exact ⟨_, rfl, by rw [HE.out]; exact intsAt_nil _ _, HB1.out⟩
  | true =>
    rw [hg] at HRI
    have HRG := Lib.hid hg
    rw [Bool.and_eq_true] at hg
    obtain ⟨hgk, hz0, hz1⟩ := rightG_ok.1 hg.1
    have HGK := Lib.hid hgk
    have HSM := Lib.hid (small_gok hgk)
    clear hg hgk hz0 hz1
    go_enter Try.func41, Try.ntmps41
    go_wp2_with fail
    refine (HRI.out).mono ?_
    rintro r w1 ⟨rfl, hb1⟩
    have HB1 := Lib.hid (hal.trans (hb1.mono (by omega)))
    have hlt : w.heap.size + 2 ≤ w1.heap.size := Nat.le_trans hsz3 hb1.size
    have HBD1 := Lib.hid (show BoxI w1 w.heap.size d from (hb1.block w.heap.size (by omega)).trans HBD.out)
    clear hb1 HRI hal hsz3 HALB HBD
    go_wp2_with fail
    have ha1 := below_al1 w1 (.cells #[.int .i64 s] 3)
    have hn1 : BoxI (w1.alloc (.cells #[.int .i64 s] 3)) w1.heap.size s := heap_alloc_new _ _
    have hs2 : (w1.alloc (.cells #[.int .i64 s] 3)).heap.size = w1.heap.size + 1 := by simp
    have ha2 := below_al1 (w1.alloc (.cells #[.int .i64 s] 3)) (.cells #[.int .i64 s] 3)
    have HO0 := Lib.hid (by have h := intsAt_one (w := w1.alloc (.cells #[.int .i64 s] 3)) (B := w1.heap.size + 1) (by simp) s; rwa [hs2] at h)
    have HA0 := Lib.hid (hn1.below ha2)
    have HB0 := Lib.hid (ha1.trans (ha2.mono ha1.size))
    clear ha1 hn1 ha2 hs2
    go_loopw [13, 15] (fun o v wr => ∃ (i : Nat) (out : List Int) (at_ : Int), v = .int .i64 i ∧ ((i ≤ k ∧ WkAt n l s xs i out at_) ∨ (i = k + 1 ∧ walkV n l s d xs = out)) ∧ BoxI wr w1.heap.size at_ ∧ IntsAt wr (w1.heap.size + 1) o out ∧ Below w1.heap.size w1 wr) (fun _ v _ => k + 1 - (intOf v).toNat)
    case atStart => exact ⟨0, [s], s, rfl, .inl ⟨Nat.zero_le _, wkAt_start _ _⟩, HA0.out, HO0.out, HB0.out⟩
    case round =>
      obtain ⟨vo, rfl⟩ : ∃ vo, vo = u13 := ⟨_, rfl⟩
      obtain ⟨i, out, at_, rfl, hinv, hat, hown, hbr⟩ := hrel
      have HO := Lib.hid hown
      have HB := Lib.hid hbr
      have HAT := Lib.hid hat
      have hbd0 := (HBD1.out.below hbr)
      have ca := hat.cell
      have cla := hat.lt
      have cd := hbd0.cell
      have cld := hbd0.lt
      have HBW := Lib.hid (HB1.out.trans (hbr.mono HB1.out.size))
      have hi0 : (0 : Int) ≤ i := by omega
      clear hown hbr hat HO0 HA0 HB0
      rcases hinv with ⟨hik, hwk⟩ | ⟨rfl, hfin⟩
      · have HWK := Lib.hid hwk
        have hlo := hwk.len
        have hle : (i : Int) ≤ k := by omega
        have HW1 := Lib.hid (walk1_any ca cd cla cld)
        clear hwk
        go_wp2_with (go_at_call 64; refine Hid.out (p := _) ?_)
        refine Lib.hid ((HW1.out).mono ?_)
        rintro rr w2 ⟨rfl, hb2⟩
        have HBW2 := Lib.hid (HBW.out.trans (hb2.mono HBW.out.size))
        have HB2 := Lib.hid (HB.out.trans (hb2.mono HB.out.size))
        have HO2 := Lib.hid (HO.out.below hb2)
        have HAT2 := Lib.hid (HAT.out.below hb2)
        clear hb2 HW1 HAT HO HB HBW hbd0 ca cla cd cld
        by_cases hlt : i < k
        · have hi1 : (i : Int) < k := by omega
          obtain ⟨x, b1, o1, hx, rfl, hc⟩ := (HX.out.below HBW2.out).at_ hlt
          have c0 := hc 0 _ rfl
          have c1 := hc 1 _ rfl
          have c2 := hc 2 _ rfl
          simp only [Nat.add_zero] at c0
          have HXX := Lib.hid hx
          have hb1 : b1 < w2.heap.size := World.block_lt_of_cell? w2 _ c0
          clear hx hc
          obtain ⟨xl, xf, xt⟩ := x
          simp only at c0 c1 c2
          go_upto_region 13 with fail
          have hal := below_al1 w2 (.cells #[.bool xl, .int .i64 xf, .int .i64 xt] 80)
          have HBX := Lib.hid (show BoxS 80 (w2.alloc (.cells #[.bool xl, .int .i64 xf, .int .i64 xt] 80)) w2.heap.size ⟨xl, xf, xt⟩ from heap_alloc_new _ _)
          have HBW3 := Lib.hid (HBW2.out.trans (hal.mono HBW2.out.size))
          have HB3 := Lib.hid (HB2.out.trans (hal.mono HB2.out.size))
          have HO3 := Lib.hid (HO2.out.below hal)
          have HAT3 := Lib.hid (HAT2.out.below hal)
          have HNB := Lib.hid (fun g h => (World.ownsRow.lt HO2.out g h).2)
          have hbx : w1.heap.size < w2.heap.size := HAT2.out.lt
          clear hal HB2 HO2 HAT2 HBW2
          generalize w2.heap.size = bx at HBX HNB hbx ⊢
          generalize World.alloc _ _ = w3 at HBX HB3 HO3 HAT3 HBW3 ⊢
          obtain ⟨z3, z0, z1, z2⟩ := HBX.out.cells
          cases xl with
          | true =>
            have HWS := Lib.hid (show wayS n l ⟨true, xf, xt⟩ = [xf, xt] from if_pos rfl)
            have HOK := Lib.hid (show okS n l ⟨true, xf, xt⟩ = (costG l [xf, xt]).isSome by unfold okS; rw [HWS.out])
            have HCV := Lib.hid (show costV l [xf, xt] = .tuple #[.int .i64 ((costG l [xf, xt]).getD 0), .bool (costG l [xf, xt]).isSome] from rfl)

            have hal := below_al1 w3 (.cells #[.int .i64 xf, .int .i64 xt] 3)
            have HBX4 := Lib.hid (HBX.out.below hal)
            have HBW4 := Lib.hid (HBW3.out.trans (hal.mono HBW3.out.size))
            have HB4 := Lib.hid (HB3.out.trans (hal.mono HB3.out.size))
            have HO4 := Lib.hid (HO3.out.below hal)
            have HAT4 := Lib.hid (HAT3.out.below hal)

            have HCO := Lib.hid (costw_any (c := c) (d := 2) (HL.out.below HBW4.out) (rd_ints w3 [xf, xt]) HSM.out hm (by simp) (by simp))
            have HC4 := Lib.hid (new_cells w3 [.int .i64 xf, .int .i64 xt] 3)
            rw [HCV.out] at HCO
            clear hal HBX HO3 HB3 HAT3 HBW3 HCV
            generalize (costG l [xf, xt]).isSome = ok at HCO HOK
            generalize (costG l [xf, xt]).getD 0 = cz at HCO
            go_wp2_with fail
            refine (HCO.out).mono ?_
            rintro rr w6 ⟨rfl, hb6⟩
            have HBX6 := Lib.hid (HBX4.out.below hb6)
            have HBW6 := Lib.hid (HBW4.out.trans (hb6.mono HBW4.out.size))
            have HB6 := Lib.hid (HB4.out.trans (hb6.mono HB4.out.size))
            have HO6 := Lib.hid (HO4.out.below hb6)
            have HAT6 := Lib.hid (HAT4.out.below hb6)

            have HC6 := Lib.hid (show ∀ j u, (ints [xt])[j]? = some u → w6.cell? ((⟨w3.heap.size, 1, none⟩ : Addr).add j) = some u from fun j u hu => by
              cases j with
              | zero =>
                have h1 := HC4.out 1 u (by simpa [ints] using hu)
                have hadd : (⟨w3.heap.size, 0, none⟩ : Addr).add 1 = ⟨w3.heap.size, 1, none⟩ := by simp [Addr.add]
                have hadd2 : (⟨w3.heap.size, 1, none⟩ : Addr).add 0 = ⟨w3.heap.size, 1, none⟩ := by simp [Addr.add]
                rw [hadd] at h1
                rw [hadd2]
                exact (hb6.cell (World.block_lt_of_cell? _ _ h1)).trans h1
              | succ j => simp [ints] at hu)
            obtain ⟨q0, q1, q2, q3⟩ := HBX6.out.cells
            have ca := HAT6.out.cell
            clear hb6 HBX4 HO4 HB4 HC4 HBW4 HAT4 HCO z0 z1 z2 z3
            cases ok with
            | false =>
              have HE := Lib.hid (HWK.out.bad HXX.out (d := d) (.inl HOK.out))
              go_wp2_with fail
              go_ret
              exact ⟨_, rfl, by rw [HE.out]; exact intsAt_nil _ _, HBW6.out⟩
            | true =>
              by_cases hfa : xf = at_
              · have HNX := Lib.hid (HWK.out.next HXX.out HOK.out hfa)
                rw [show (wayS n l ⟨true, xf, xt⟩).tail = [xt] by rw [HWS.out]; rfl] at HNX
                subst hfa
                go_wp2_with (at_builtin; refine app_ints rfl (.tmp 77) (.tmp 79) rfl (w1.heap.size + 1) _ out [xt] rfl HO6.out ⟨w3.heap.size, 1, none⟩ 1 rfl HC6.out (by simp; omega) (Nat.succ_le_of_lt (Nat.lt_trans hbx q0)) ?_; intro v2 w7 hown2 hg2; have HO7 := Lib.hid hown2; have HB7 := Lib.hid (HB6.out.grown hg2 HB6.out.size (fun g h => Nat.le_of_succ_le (World.ownsRow.lt HO6.out g h).1)); have HBX7 := Lib.hid (show BoxS 80 w7 bx _ from (hg2.block bx q0 (fun h => Nat.lt_irrefl _ (HNB.out _ h.symm))).trans HBX6.out); have HAT7 := Lib.hid (show BoxI w7 w1.heap.size _ from (hg2.block _ HAT6.out.lt (fun h => Nat.not_succ_le_self _ (World.ownsRow.lt HO6.out _ h.symm).1)).trans HAT6.out); obtain ⟨r0, r1, r2, r3⟩ := HBX7.out.cells; have ca7 := HAT7.out.cell; have fa7 := HAT7.out.frozen; have la7 := HAT7.out.lt; clear hown2 hg2)
                go_roundw
                case rel => exact ⟨i + 1, out ++ [xt], xt, by go_num, .inl ⟨by omega, HNX.out⟩, HAT7.out.set xt, HO7.out.set (Nat.lt_succ_self _) _, HB7.out.setCell (Nat.le_refl _) _⟩
                case measure => simp [intOf]; omega
              · have HE := Lib.hid (HWK.out.bad HXX.out (d := d) (.inr hfa))
                go_wp2_with fail
                go_ret
                exact ⟨_, rfl, by rw [HE.out]; exact intsAt_nil _ _, HBW6.out⟩
          | false =>
            have HOK := Lib.hid (okS_path HGK.out xf xt)
            cases hp : pathG n l xf xt with
            | nil =>
              rw [hp] at HOK
              have HE := Lib.hid (HWK.out.bad HXX.out (d := d) (.inl HOK.out))
              have hal := below_al1 w3 (.cells #[.int .i64 xf, .int .i64 xt] 3)
              have HBX4 := Lib.hid (HBX.out.below hal)
              have HBW4 := Lib.hid (HBW3.out.trans (hal.mono HBW3.out.size))
              have HB4 := Lib.hid (HB3.out.trans (hal.mono HB3.out.size))
              have HO4 := Lib.hid (HO3.out.below hal)
              have HAT4 := Lib.hid (HAT3.out.below hal)
              have HPA := Lib.hid (path_any (c := c) (HL.out.below HBW4.out) n xf xt hm)
              rw [hp] at HPA
              clear hal hp
              go_wp2_with fail
              refine (HPA.out).mono ?_
              rintro rr w5 ⟨v, rfl, hv, hb5⟩
              obtain ⟨F, fc, rfl, hfc, hrd⟩ := hv.rdc
              have HBX5 := Lib.hid (HBX4.out.below hb5)
              have HBW5 := Lib.hid (HBW4.out.trans (hb5.mono HBW4.out.size))
              have HB5 := Lib.hid (HB4.out.trans (hb5.mono HB4.out.size))
              have HO5 := Lib.hid (HO4.out.below hb5)
              have HAT5 := Lib.hid (HAT4.out.below hb5)
              have HCO := Lib.hid (costw_any (c := c) (d := fc) (HL.out.below HBW5.out) hrd HSM.out hm (by simp) hfc)
              rw [show costV l [] = .tuple #[.int .i64 0, .bool false] from rfl] at HCO
              clear hv hb5 hrd hfc HPA
              go_wp2_with fail
              refine (HCO.out).mono ?_
              rintro rr w6 ⟨rfl, hb6⟩
              have HBW6 := Lib.hid (HBW5.out.trans (hb6.mono HBW5.out.size))
              have ca := (HAT5.out.below hb6).cell
              obtain ⟨q0, q1, q2, q3⟩ := (HBX5.out.below hb6).cells
              clear hb6
              go_wp2_with fail
              go_ret
              exact ⟨_, rfl, by rw [HE.out]; exact intsAt_nil _ _, HBW6.out⟩
            | cons a r =>
              rw [hp] at HOK
              have hrl : r.length ≤ 64 := by have := pathG_few n l xf xt; rw [hp] at this; simp at this; omega
              have HIS := Lib.hid (show (costG l (a :: r)).isSome = true by rw [← hp, path_okay HGK.out, hp]; rfl)
              have HTL := Lib.hid (show (wayS n l ⟨false, xf, xt⟩).tail = r by unfold wayS; simp [hp])
              have hal := below_al1 w3 (.cells #[.int .i64 xf, .int .i64 xt] 3)
              have HBX4 := Lib.hid (HBX.out.below hal)
              have HBW4 := Lib.hid (HBW3.out.trans (hal.mono HBW3.out.size))
              have HB4 := Lib.hid (HB3.out.trans (hal.mono HB3.out.size))
              have HO4 := Lib.hid (HO3.out.below hal)
              have HAT4 := Lib.hid (HAT3.out.below hal)
              have HPA := Lib.hid (path_any (c := c) (HL.out.below HBW4.out) n xf xt hm)
              rw [hp] at HPA
              clear hal hp
              go_wp2_with fail
              refine (HPA.out).mono ?_
              rintro rr w5 ⟨v, rfl, hv, hb5⟩
              obtain ⟨F, fc, rfl, hfc, hrd⟩ := hv.rdc
              have HBX5 := Lib.hid (HBX4.out.below hb5)
              have HBW5 := Lib.hid (HBW4.out.trans (hb5.mono HBW4.out.size))
              have HB5 := Lib.hid (HB4.out.trans (hb5.mono HB4.out.size))
              have HO5 := Lib.hid (HO4.out.below hb5)
              have HAT5 := Lib.hid (HAT4.out.below hb5)
              have HCO := Lib.hid (costw_any (c := c) (d := fc) (HL.out.below HBW5.out) hrd HSM.out hm (by simp; omega) hfc)
              rw [show costV l (a :: r) = .tuple #[.int .i64 ((costG l (a :: r)).getD 0), .bool true] by unfold costV; rw [HIS.out]] at HCO
              have HRD := Lib.hid hrd
              have HFC := Lib.hid hfc
              generalize (costG l (a :: r)).getD 0 = cz at HCO
              clear hv hb5 hrd hfc HPA HIS
              go_wp2_with fail
              refine (HCO.out).mono ?_
              rintro rr w6 ⟨rfl, hb6⟩
              have HBX6 := Lib.hid (HBX5.out.below hb6)
              have HBW6 := Lib.hid (HBW5.out.trans (hb6.mono HBW5.out.size))
              have HB6 := Lib.hid (HB5.out.trans (hb6.mono HB5.out.size))
              have HO6 := Lib.hid (HO5.out.below hb6)
              have HAT6 := Lib.hid (HAT5.out.below hb6)
              obtain ⟨fb, fo, rfl, ad, had, hcl⟩ := tail_cells (HRD.out.below hb6) HFC.out
              have HC6 := Lib.hid hcl
              have ca := HAT6.out.cell
              obtain ⟨q0, q1, q2, q3⟩ := HBX6.out.cells
              clear hb6 hcl HBX4 HO4 HB4 HBW4 HAT4 HBX5 HO5 HB5 HBW5 HAT5 HCO z0 z1 z2 z3
              by_cases hfa : xf = at_
              · have HNX := Lib.hid (HWK.out.next HXX.out HOK.out hfa)
                rw [HTL.out] at HNX
                subst hfa
                go_wp2_with (at_builtin; refine app_ints rfl (.tmp 77) (.tmp 79) rfl (w1.heap.size + 1) _ out r rfl HO6.out ad (fc - 1) rfl HC6.out (by omega) (Nat.succ_le_of_lt (Nat.lt_trans hbx q0)) ?_; intro v2 w7 hown2 hg2; have HO7 := Lib.hid hown2; have HB7 := Lib.hid (HB6.out.grown hg2 HB6.out.size (fun g h => Nat.le_of_succ_le (World.ownsRow.lt HO6.out g h).1)); have HBX7 := Lib.hid (show BoxS 80 w7 bx _ from (hg2.block bx q0 (fun h => Nat.lt_irrefl _ (HNB.out _ h.symm))).trans HBX6.out); have HAT7 := Lib.hid (show BoxI w7 w1.heap.size _ from (hg2.block _ HAT6.out.lt (fun h => Nat.not_succ_le_self _ (World.ownsRow.lt HO6.out _ h.symm).1)).trans HAT6.out); obtain ⟨r0, r1, r2, r3⟩ := HBX7.out.cells; have ca7 := HAT7.out.cell; have fa7 := HAT7.out.frozen; have la7 := HAT7.out.lt; clear hown2 hg2)
                go_roundw
                case rel => exact ⟨i + 1, out ++ r, xt, by go_num, .inl ⟨by omega, HNX.out⟩, HAT7.out.set xt, HO7.out.set (Nat.lt_succ_self _) _, HB7.out.setCell (Nat.le_refl _) _⟩
                case measure => simp [intOf]; omega
              · have HE := Lib.hid (HWK.out.bad HXX.out (d := d) (.inr hfa))
                go_wp2_with fail
                go_ret
                exact ⟨_, rfl, by rw [HE.out]; exact intsAt_nil _ _, HBW6.out⟩
        · obtain rfl : i = k := by omega
          have hge : ¬ (i : Int) < i := by omega
          go_upto_region 13 with fail
          have hal := below_al1 w2 (.cells #[.bool false, .int .i64 at_, .int .i64 d] 80)
          have HBX := Lib.hid (show BoxS 80 (w2.alloc (.cells #[.bool false, .int .i64 at_, .int .i64 d] 80)) w2.heap.size ⟨false, at_, d⟩ from heap_alloc_new _ _)
          have HBW3 := Lib.hid (HBW2.out.trans (hal.mono HBW2.out.size))
          have HB3 := Lib.hid (HB2.out.trans (hal.mono HB2.out.size))
          have HO3 := Lib.hid (HO2.out.below hal)
          have HAT3 := Lib.hid (HAT2.out.below hal)
          have HNB := Lib.hid (fun g h => (World.ownsRow.lt HO2.out g h).2)
          have hbx : w1.heap.size < w2.heap.size := HAT2.out.lt
          clear hal HB2 HO2 HAT2 HBW2
          generalize w2.heap.size = bx at HBX HNB hbx ⊢
          generalize World.alloc _ _ = w3 at HBX HB3 HO3 HAT3 HBW3 ⊢
          obtain ⟨z3, z0, z1, z2⟩ := HBX.out.cells
          have HOK := Lib.hid (okS_path HGK.out at_ d)
          cases hp : pathG n l at_ d with
          | nil =>
            rw [hp] at HOK
            have HE := Lib.hid (HWK.out.lost (d := d) (Nat.le_of_eq HXL.out) HOK.out)
            have hal := below_al1 w3 (.cells #[.int .i64 at_, .int .i64 d] 3)
            have HBX4 := Lib.hid (HBX.out.below hal)
            have HBW4 := Lib.hid (HBW3.out.trans (hal.mono HBW3.out.size))
            have HB4 := Lib.hid (HB3.out.trans (hal.mono HB3.out.size))
            have HO4 := Lib.hid (HO3.out.below hal)
            have HAT4 := Lib.hid (HAT3.out.below hal)
            have HPA := Lib.hid (path_any (c := c) (HL.out.below HBW4.out) n at_ d hm)
            rw [hp] at HPA
            clear hal hp
            go_wp2_with fail
            refine (HPA.out).mono ?_
            rintro rr w5 ⟨v, rfl, hv, hb5⟩
            obtain ⟨F, fc, rfl, hfc, hrd⟩ := hv.rdc
            have HBX5 := Lib.hid (HBX4.out.below hb5)
            have HBW5 := Lib.hid (HBW4.out.trans (hb5.mono HBW4.out.size))
            have HB5 := Lib.hid (HB4.out.trans (hb5.mono HB4.out.size))
            have HO5 := Lib.hid (HO4.out.below hb5)
            have HAT5 := Lib.hid (HAT4.out.below hb5)
            have HCO := Lib.hid (costw_any (c := c) (d := fc) (HL.out.below HBW5.out) hrd HSM.out hm (by simp) hfc)
            rw [show costV l [] = .tuple #[.int .i64 0, .bool false] from rfl] at HCO
            clear hv hb5 hrd hfc HPA
            go_wp2_with fail
            refine (HCO.out).mono ?_
            rintro rr w6 ⟨rfl, hb6⟩
            have HBW6 := Lib.hid (HBW5.out.trans (hb6.mono HBW5.out.size))
            have ca := (HAT5.out.below hb6).cell
            obtain ⟨q0, q1, q2, q3⟩ := (HBX5.out.below hb6).cells
            clear hb6
            go_wp2_with fail
            go_ret
            exact ⟨_, rfl, by rw [HE.out]; exact intsAt_nil _ _, HBW6.out⟩
          | cons a r =>
            rw [hp] at HOK
            have hrl : r.length ≤ 64 := by have := pathG_few n l at_ d; rw [hp] at this; simp at this; omega
            have HIS := Lib.hid (show (costG l (a :: r)).isSome = true by rw [← hp, path_okay HGK.out, hp]; rfl)
            have HTL := Lib.hid (show (wayS n l ⟨false, at_, d⟩).tail = r by unfold wayS; simp [hp])
            have hal := below_al1 w3 (.cells #[.int .i64 at_, .int .i64 d] 3)
            have HBX4 := Lib.hid (HBX.out.below hal)
            have HBW4 := Lib.hid (HBW3.out.trans (hal.mono HBW3.out.size))
            have HB4 := Lib.hid (HB3.out.trans (hal.mono HB3.out.size))
            have HO4 := Lib.hid (HO3.out.below hal)
            have HAT4 := Lib.hid (HAT3.out.below hal)
            have HPA := Lib.hid (path_any (c := c) (HL.out.below HBW4.out) n at_ d hm)
            rw [hp] at HPA
            clear hal hp
            go_wp2_with fail
            refine (HPA.out).mono ?_
            rintro rr w5 ⟨v, rfl, hv, hb5⟩
            obtain ⟨F, fc, rfl, hfc, hrd⟩ := hv.rdc
            have HBX5 := Lib.hid (HBX4.out.below hb5)
            have HBW5 := Lib.hid (HBW4.out.trans (hb5.mono HBW4.out.size))
            have HB5 := Lib.hid (HB4.out.trans (hb5.mono HB4.out.size))
            have HO5 := Lib.hid (HO4.out.below hb5)
            have HAT5 := Lib.hid (HAT4.out.below hb5)
            have HCO := Lib.hid (costw_any (c := c) (d := fc) (HL.out.below HBW5.out) hrd HSM.out hm (by simp; omega) hfc)
            rw [show costV l (a :: r) = .tuple #[.int .i64 ((costG l (a :: r)).getD 0), .bool true] by unfold costV; rw [HIS.out]] at HCO
            have HRD := Lib.hid hrd
            have HFC := Lib.hid hfc
            generalize (costG l (a :: r)).getD 0 = cz at HCO
            clear hv hb5 hrd hfc HPA HIS
            go_wp2_with fail
            refine (HCO.out).mono ?_
            rintro rr w6 ⟨rfl, hb6⟩
            have HBX6 := Lib.hid (HBX5.out.below hb6)
            have HBW6 := Lib.hid (HBW5.out.trans (hb6.mono HBW5.out.size))
            have HB6 := Lib.hid (HB5.out.trans (hb6.mono HB5.out.size))
            have HO6 := Lib.hid (HO5.out.below hb6)
            have HAT6 := Lib.hid (HAT5.out.below hb6)
            obtain ⟨fb, fo, rfl, ad, had, hcl⟩ := tail_cells (HRD.out.below hb6) HFC.out
            have HC6 := Lib.hid hcl
            have ca := HAT6.out.cell
            obtain ⟨q0, q1, q2, q3⟩ := HBX6.out.cells
            clear hb6 hcl HBX4 HO4 HB4 HBW4 HAT4 HBX5 HO5 HB5 HBW5 HAT5 HCO z0 z1 z2 z3
            have HNX := Lib.hid (HWK.out.last (d := d) (Nat.le_of_eq HXL.out) HRG.out HOK.out)
            rw [HTL.out] at HNX
            go_wp2_with (at_builtin; refine app_ints rfl (.tmp 77) (.tmp 79) rfl (w1.heap.size + 1) _ out r rfl HO6.out ad (fc - 1) rfl HC6.out (by omega) (Nat.succ_le_of_lt (Nat.lt_trans hbx q0)) ?_; intro v2 w7 hown2 hg2; have HO7 := Lib.hid hown2; have HB7 := Lib.hid (HB6.out.grown hg2 HB6.out.size (fun g h => Nat.le_of_succ_le (World.ownsRow.lt HO6.out g h).1)); have HBX7 := Lib.hid (show BoxS 80 w7 bx _ from (hg2.block bx q0 (fun h => Nat.lt_irrefl _ (HNB.out _ h.symm))).trans HBX6.out); have HAT7 := Lib.hid (show BoxI w7 w1.heap.size _ from (hg2.block _ HAT6.out.lt (fun h => Nat.not_succ_le_self _ (World.ownsRow.lt HO6.out _ h.symm).1)).trans HAT6.out); obtain ⟨r0, r1, r2, r3⟩ := HBX7.out.cells; have ca7 := HAT7.out.cell; have fa7 := HAT7.out.frozen; have la7 := HAT7.out.lt; clear hown2 hg2)
            go_roundw
            case rel => exact ⟨i + 1, out ++ r, d, by go_num, .inr ⟨rfl, HNX.out⟩, HAT7.out.set d, HO7.out.set (Nat.lt_succ_self _) _, HB7.out.setCell (Nat.le_refl _) _⟩
            case measure => simp [intOf]
      · have hgt : ¬ (k : Int) + 1 ≤ k := by omega
        have HF := Lib.hid hfin
        have HO1 := Lib.hid (own_mono HO.out (show w.heap.size ≤ w1.heap.size + 1 by omega))
        clear hfin
        go_wp2_with fail
        go_ret
        exact ⟨_, rfl, by rw [HF.out]; exact HO1.out, HBW.out⟩
end Go.Proofs.Ytmdcfiejkbhgpaa
