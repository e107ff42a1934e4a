/-
  The reference's Steps, walked.
-/
import Derived.Test.YtmdcfiejkbhgpaaRepB
import Derived.WalkMore
import Derived.Deep.RegionLaw
namespace Go.Proofs.Ytmdcfiejkbhgpaa
open Go.RowKit

theorem Try.info_t : (Try.prog.info? 72).map (fun i => (i.zero, i.size, i.bytes)) = some (some (.agg #[.bool false, .int .i64 0, .int .i64 0]), 3, 24) := by kernel_rfl
/-- a step put behind a row of the call's own, in a region that draws -/
theorem step_tt {ops : Array Oper} {o : Oper} {a : Act} {w : World} {K : Act → World → Prop} {Q : Exit → Act → World → Prop} {E : Prop} (hgd : o.guard = none) (s x : Operand)
    (ho : o.op = .call { callee := .builtin .append, args := #[s, x], argTypes := #[52, 52] })
    (B : Nat) (v : Value) (l : List St) (z : St) (hs : a.eval s = v) (hown : StsAt 72 w B v l) (b : Nat) (hx : a.eval x = .slice (some ⟨b, 0, none⟩) 1 1) (hr : ∀ j u, (stc z)[j]? = some u → w.cell? ((⟨b, 0, none⟩ : Addr).add j) = some u)
    (hsz : l.length ≤ 1000000) (hB : B ≤ w.heap.size)
    (h : ∀ v' w', StsAt 72 w' B v' (l ++ [z]) → w.grownBy w' v.ownBlock → K (a.put o.dst v') w') :
    if Region.wanted o (yielded ops a.tmps) = true then Oper.wp Try.prog o a w K Q else E := by
  have hw : Region.wanted o (yielded ops a.tmps) = true := by simp [Region.wanted, hgd]
  rw [if_pos hw]
  obtain ⟨i0, hi, hz0, hz1, hz2⟩ := info_parts Try.info_t
  obtain ⟨v', w', hrun, hown', hg, -, -⟩ := run_append_own_at (P := Try.prog) w B 52 o.type 72 i0 (.agg #[.bool false, .int .i64 0, .int .i64 0]) 3 24 Try.underlying52 hi hz0 hz1 hz2 rfl (by decide) v l.length _ hown ⟨b, 0, none⟩ 1 1 (stc z) rfl hr (stc_one z) (by unfold maxLen; omega) (by omega) hB
  unfold Oper.wp
  simp [execOp, ho, resolve, invoke, builtin, hs, hx, hrun, Result.andThen]
  refine h v' w' ?_ hg
  unfold StsAt
  rw [flatE_append, List.length_append]
  have e : flatE stc [z] = stc z := by simp [flatE]
  rw [e]
  exact hown'

/-- among the nodes of the way behind i and ahead of j: the last one that is clean, or none -/
def LastAt (cl : Int → Int → Bool) (way : List Int) (i j : Nat) (tz : Int) : Prop :=
  (tz = -1 ∧ ∀ k, i < k → k < j → cl (wAt way i) (wAt way k) = false) ∨
  ∃ t : Nat, tz = t ∧ i < t ∧ t < j ∧ cl (wAt way i) (wAt way t) = true ∧ ∀ k, t < k → k < j → cl (wAt way i) (wAt way k) = false
theorem lastAt_start (cl : Int → Int → Bool) (way : List Int) (i : Nat) : LastAt cl way i (i + 1) (-1) := .inl ⟨rfl, fun k h1 h2 => absurd h2 (by omega)⟩
theorem lastAt_yes {cl : Int → Int → Bool} {way : List Int} {i j : Nat} (hij : i < j) (hc : cl (wAt way i) (wAt way j) = true) : LastAt cl way i (j + 1) (j : Int) :=
  .inr ⟨j, rfl, hij, by omega, hc, fun k h1 h2 => absurd h2 (by omega)⟩
theorem lastAt_no {cl : Int → Int → Bool} {way : List Int} {i j : Nat} {tz : Int} (h : LastAt cl way i j tz) (hc : cl (wAt way i) (wAt way j) = false) : LastAt cl way i (j + 1) tz := by
  rcases h with ⟨h1, h2⟩ | ⟨t, h1, h2, h3, h4, h5⟩
  · refine .inl ⟨h1, fun k hk1 hk2 => ?_⟩
    by_cases e : k = j
    · rw [e]; exact hc
    · exact h2 k hk1 (by omega)
  · refine .inr ⟨t, h1, h2, by omega, h4, fun k hk1 hk2 => ?_⟩
    by_cases e : k = j
    · rw [e]; exact hc
    · exact h5 k hk1 (by omega)
theorem lastAt_end {cl : Int → Int → Bool} {way : List Int} {i j : Nat} {tz : Int} (h : LastAt cl way i j tz) (hj : way.length ≤ j) (hjj : j ≤ way.length) :
    (tz = -1 ∧ hopK cl way i = (true, i + 1)) ∨ ∃ t : Nat, tz = t ∧ i < t ∧ t < way.length ∧ hopK cl way i = (false, t) := by
  obtain rfl : j = way.length := by omega
  rcases h with ⟨h1, h2⟩ | ⟨t, h1, h2, h3, h4, h5⟩
  · exact .inl ⟨h1, hop_none h2⟩
  · exact .inr ⟨t, h1, h2, h3, hop_found h2 h3 h4 h5⟩

set_option maxRecDepth 100000 in
set_option maxHeartbeats 8000000 in
theorem rsteps_any {w : World} {A : Option Addr} {m c : Nat} {l : List Lk} (hr : Rd lkc 3 w A m l) (n s e d : Int) (hm : m ≤ 1000) :
    Calls Try.prog 38 #[.int .i64 n, .slice A m c, .int .i64 s, .int .i64 e, .int .i64 d] w fun r w' => ∃ v, r = .returned (.tuple #[v, .bool (decide (afterV n l s e d ≠ []))]) ∧ StsAt 72 w' w.heap.size v (stepsR n l s e d) ∧ Below w.heap.size w w' := by
  have HAF := Lib.hid (rafter_any (c := c) hr n s e d hm)
  have HL := Lib.hid hr
  clear hr
  by_cases hw : afterV n l s e d = []
  · have HD := Lib.hid (show decide (afterV n l s e d ≠ []) = false by simp [hw])
    have HE := Lib.hid (show stepsR n l s e d = [] by unfold stepsR; rw [if_pos hw])
    rw [hw] at HAF
    clear hw
    go_enter Try.func38, Try.ntmps38
    go_wp2_with fail
    refine (HAF.out).mono ?_
    rintro r w1 ⟨v, rfl, hv, hb1⟩
    obtain ⟨G, gc, rfl, -⟩ := hv.rd
    have HB1 := Lib.hid hb1
    clear hv hb1
    go_wp2_with fail
    go_ret2
    rw [HD.out]
    exact ⟨_, rfl, by rw [HE.out]; exact stsAt_nil _ _, HB1.out⟩
  · have HD := Lib.hid (show decide (afterV n l s e d ≠ []) = true by simp [hw])
    have HE := Lib.hid (show stepsR n l s e d = stepsV (cleanV n l s e) (afterV n l s e d) d by unfold stepsR; rw [if_neg hw])
    obtain ⟨hgk, hd, hrg, hend, hlen⟩ := way_facts hw
    have HGK := Lib.hid hgk
    have HRG := Lib.hid hrg
    have HEND := Lib.hid hend
    have HDR := Lib.hid hd
    have HSF := Lib.hid (clean_self hgk s e (d := d))
    have HST := Lib.hid (stepInv_start (cl := cleanV n l s e) (d := d) hw)
    have HK0 := Lib.hid (List.length_pos_iff.2 hw)
    clear hgk hrg hend hd hw
    generalize afterV n l s e d = way at *
    go_enter Try.func38, Try.ntmps38
    go_wp2_with fail
    refine (HAF.out).mono ?_
    rintro r w1 ⟨v, rfl, hv, hb1⟩
    obtain ⟨G, gc, rfl, hrd⟩ := hv.rd
    have HB1 := Lib.hid hb1
    have HWY := Lib.hid hrd
    have hk0 := HK0.out
    clear hv hb1 HAF hrd
    generalize hK : way.length = K at HEND HRG HWY hlen hk0 ⊢
    have HKW := Lib.hid hK
    clear hK
    have hne : ((K : Int) == 0) = false := by simp; omega
    go_wp2_with fail
    have HL2 := Lib.hid (HL.out.below HB1.out)
    have HB0 := Lib.hid (Below.refl w1.heap.size w1)
    go_loopw [13, 14] (fun o v wr => ∃ (i : Nat) (pre : List St), v = .int .i64 i ∧ StepInv (cleanV n l s e) way d pre i ∧ StsAt 72 wr w1.heap.size o pre ∧ Below w1.heap.size w1 wr) (fun _ v _ => K - (intOf v).toNat)
    case atStart => exact ⟨0, [], rfl, HST.out, stsAt_nil _ _, HB0.out⟩
    case round =>
      obtain ⟨wo, rfl⟩ : ∃ wo, wo = wr := ⟨_, rfl⟩
      obtain ⟨vo, rfl⟩ : ∃ vo, vo = u13 := ⟨_, rfl⟩
      obtain ⟨i, pre, rfl, hinv, hown, hbr⟩ := hrel
      have HI := Lib.hid hinv
      have HO := Lib.hid hown
      have HB := Lib.hid hbr
      have hik : i < K := by have h1 := HKW.out; have h2 := hinv.1; omega
      have hi0 : (0 : Int) ≤ i := by omega
      have hi1 : (i : Int) < K := by omega
      obtain ⟨x, gb, go, hx, rfl, hcell⟩ := (HWY.out.below hbr).at_ hik
      have hxe : wAt way i = x := getD_of hx
      have c0 := hcell 0 _ rfl
      rw [Nat.add_zero, Nat.mul_one] at c0
      have hxr := HRG.out i hik
      rw [hxe] at hxr
      have HCD := Lib.hid (rclean_any (c := c) (HL2.out.below hbr) HGK.out s e hxr HDR.out hm)
      have HXE := Lib.hid hxe
      clear hinv hown hbr hcell hx hxe HB0 HST
      cases hcl : cleanV n l s e x d with
      | true =>
        have HFI := Lib.hid (HI.out.stop (by rw [HXE.out]; exact hcl))
        rw [hcl] at HCD
        clear hcl
        go_wp2_with fail
        refine (HCD.out).mono ?_
        rintro r wA ⟨rfl, hchA⟩
        have HCH := Lib.hid hchA
        clear hchA
        go_wp2_with fail
        go_ret2
        rw [HD.out]
        exact ⟨_, rfl, by rw [HE.out, ← HFI.out]; exact own_mono (HO.out.below HCH.out) HB1.out.size, HB1.out.trans ((HB.out.trans (HCH.out.mono HB.out.size)).mono HB1.out.size)⟩
      | false =>
        rw [hcl] at HCD
        have hi2 : i + 1 < K := by
          by_cases h9 : i + 1 = K
          · have h8 := HEND.out i h9
            rw [HXE.out] at h8
            have h7 := HSF.out
            rw [h8] at hcl
            rw [h7] at hcl
            cases hcl
          · omega
        have HCL := Lib.hid hcl
        clear hcl
        go_wp2_with fail
        refine (HCD.out).mono ?_
        rintro r wA ⟨rfl, hchA⟩
        have HCH := Lib.hid hchA
        clear hchA HCD c0
        have hi1w : IntKind.i64.wrap ((i : Int) + 1) = (i : Int) + 1 := IntWalk.i64_in _ (by omega)
        go_wp2_with fail
        have HLA := Lib.hid (lastAt_start (cleanV n l s e) way i)
        go_loopw [15, 16] (fun tv kv wx => ∃ (k : Nat) (tz : Int), tv = .int .i64 tz ∧ kv = .int .i64 k ∧ i < k ∧ k ≤ K ∧ LastAt (cleanV n l s e) way i k tz ∧ Below wo.heap.size wo wx) (fun _ v _ => K - (intOf v).toNat)
        case atStart => exact ⟨i + 1, -1, rfl, by go_num, by omega, by omega, HLA.out, HCH.out⟩
        case round =>
          obtain ⟨k, tz, rfl, rfl, hki, hkK, hla, hbx⟩ := hrel
          have HBX := Lib.hid hbx
          have HLK := Lib.hid hla
          have HBR := Lib.hid (HB.out.trans (hbx.mono HB.out.size))
          obtain ⟨x', gb'', go'', hx, he', hcx⟩ := (HWY.out.below HBR.out).at_ hik
          cases he'
          have hxx : x' = x := by rw [← HXE.out]; exact (getD_of hx).symm
          subst hxx
          have c0 := hcx 0 _ rfl
          rw [Nat.add_zero, Nat.mul_one] at c0
          have hk0' : (0 : Int) ≤ k := by omega
          have HOR := Lib.hid (HO.out.below hbx)
          have hlp : pre.length ≤ 1000000 := by have := HI.out.2.1; omega
          clear hx hcx hbx hla HLA
          by_cases hlt : k < K
          · have hk1' : (k : Int) < K := by omega
            obtain ⟨y, gb', go', hy, he, hcy⟩ := (HWY.out.below HBR.out).at_ hlt
            cases he
            have hye : wAt way k = y := getD_of hy
            have c1 := hcy 0 _ rfl
            rw [Nat.add_zero, Nat.mul_one] at c1
            have hyr := HRG.out k hlt
            rw [hye] at hyr
            have HYE := Lib.hid hye
            clear hy hcy hye
            have HCD := Lib.hid (fun w' (h : Below wr.heap.size wr w') => (rclean_any (c := c) (HL2.out.below (HBR.out.trans (h.mono HBR.out.size))) HGK.out s e hxr hyr hm).mono fun r w'' (he : r = _ ∧ Below w'.heap.size w' w'') => And.intro he.1 (below_step h he.2))
            have HKP := Lib.hid (fun w' (h : Below wr.heap.size wr w') => show Below wr.heap.size wr w' ∧ w'.cell? ⟨gb, go + i, none⟩ = some (.int .i64 x') ∧ w'.cell? ⟨gb, go + k, none⟩ = some (.int .i64 y) from
              ⟨h, (h.cell (World.block_lt_of_cell? wr _ c0)).trans c0, (h.cell (World.block_lt_of_cell? wr _ c1)).trans c1⟩)
            go_upto_region 11 with fail
            cases hc2 : cleanV n l s e x' y with
            | true =>
              have HNX := Lib.hid (lastAt_yes (cl := cleanV n l s e) (way := way) hki (by rw [HXE.out, HYE.out]; exact hc2))
              rw [hc2] at HCD
              clear hc2
              go_region_held3 (fun w' => Below wr.heap.size wr w' ∧ w'.cell? ⟨gb, go + i, none⟩ = some (.int .i64 x') ∧ w'.cell? ⟨gb, go + k, none⟩ = some (.int .i64 y))
                (first | assumption | exact HKP.out _ (by assumption) | exact HKP.out _ (Below.refl _ _).drew)
                (first | (go_at_call 62; (with_reducible refine (HCD.out _ (And.left (by assumption))).mono ?_); rintro r wA ⟨rfl, hchA⟩))
              have HCH2 := Lib.hid (HBX.out.trans (hchA.mono HBX.out.size))
              clear hchA c0 c1 HKP HCD
              go_wp2_with fail
              go_roundw
              case rel => exact ⟨k + 1, k, rfl, by go_num, by omega, by omega, HNX.out, HCH2.out⟩
              case measure => simp [intOf]; omega
            | false =>
              have HNX := Lib.hid (lastAt_no HLK.out (by rw [HXE.out, HYE.out]; exact hc2))
              rw [hc2] at HCD
              clear hc2
              go_region_held3 (fun w' => Below wr.heap.size wr w' ∧ w'.cell? ⟨gb, go + i, none⟩ = some (.int .i64 x') ∧ w'.cell? ⟨gb, go + k, none⟩ = some (.int .i64 y))
                (first | assumption | exact HKP.out _ (by assumption) | exact HKP.out _ (Below.refl _ _).drew)
                (first | (go_at_call 62; (with_reducible refine (HCD.out _ (And.left (by assumption))).mono ?_); rintro r wA ⟨rfl, hchA⟩))
              have HCH2 := Lib.hid (HBX.out.trans (hchA.mono HBX.out.size))
              clear hchA c0 c1 HKP HCD
              go_wp2_with fail
              go_roundw
              case rel => exact ⟨k + 1, tz, rfl, by go_num, by omega, by omega, HNX.out, HCH2.out⟩
              case measure => simp [intOf]; omega
          · obtain rfl : k = K := by omega
            have hge : ¬ (k : Int) < k := by omega
            rcases lastAt_end HLK.out (Nat.le_of_eq HKW.out) (Nat.le_of_eq HKW.out.symm) with ⟨rfl, hop⟩ | ⟨t, rfl, hit, htk, hop⟩
            · have HGO := Lib.hid (HI.out.go (by rw [HXE.out]; exact HCL.out) hop (by omega) (by rw [HKW.out]; exact hi2))
              obtain ⟨y2, gb2, go2, hy2, he2, hcy2⟩ := (HWY.out.below HBR.out).at_ hi2
              cases he2
              have c2 := hcy2 0 _ rfl
              rw [Nat.add_zero, Nat.mul_one] at c2
              have hye2 : wAt way (i + 1) = y2 := getD_of hy2
              have hk2 : (i : Int) + 1 < k := by omega
              have hk3 : (0 : Int) ≤ (i : Int) + 1 := by omega
              have hk4 : ((i : Int) + 1).toNat = i + 1 := by omega
              rw [hye2, HXE.out] at HGO
              clear hy2 hcy2 hye2 hop
              go_upto_region 14 with fail
              have hal := below_al1 wr (.cells #[.bool true, .int .i64 x', .int .i64 y2] 72)
              have HO3 := Lib.hid ((HOR.out.below hal).below (below_dN 1))
              have HBD := Lib.hid ((HBR.out.trans (hal.mono HBR.out.size)).trans ((below_dN (w := wr.alloc (.cells #[.bool true, .int .i64 x', .int .i64 y2] 72)) 1).mono (HBR.out.trans (hal.mono HBR.out.size)).size))
              have HN1 := Lib.hid (one_st wr ⟨true, x', y2⟩ 72)
              clear hal
              go_region_law (refine step_tt rfl (.tmp 61) (.tmp 72) rfl w1.heap.size vo pre ⟨true, x', y2⟩ (by go_simp) HO3.out wr.heap.size (by go_simp) HN1.out hlp HBD.out.size ?_; intro v2 w5 hown2 hg2)
              all_goals
                have HO4 := Lib.hid hown2
                have HB4 := Lib.hid (stsAt_app HBD.out HO3.out hg2)
                clear hown2 hg2
                go_wp2_with fail
                exact ⟨⟨i + 1, pre ++ [⟨true, x', y2⟩], by go_num, HGO.out, HO4.out, HB4.out⟩, by simp [intOf]; omega⟩
            · rw [HKW.out] at htk
              have HGO := Lib.hid (HI.out.go (by rw [HXE.out]; exact HCL.out) hop hit (by rw [HKW.out]; exact htk))
              obtain ⟨y2, gb2, go2, hy2, he2, hcy2⟩ := (HWY.out.below HBR.out).at_ htk
              cases he2
              have c2 := hcy2 0 _ rfl
              rw [Nat.add_zero, Nat.mul_one] at c2
              have hye2 : wAt way t = y2 := getD_of hy2
              have hk2 : (t : Int) < k := by omega
              have hk3 : (0 : Int) ≤ t := by omega
              have hk5 : ¬ (t : Int) < 0 := by omega
              rw [hye2, HXE.out] at HGO
              clear hy2 hcy2 hye2 hop
              go_upto_region 16 with fail
              have hal := below_al1 wr (.cells #[.bool false, .int .i64 x', .int .i64 y2] 72)
              have HO3 := Lib.hid ((HOR.out.below hal).below (below_dN 1))
              have HBD := Lib.hid ((HBR.out.trans (hal.mono HBR.out.size)).trans ((below_dN (w := wr.alloc (.cells #[.bool false, .int .i64 x', .int .i64 y2] 72)) 1).mono (HBR.out.trans (hal.mono HBR.out.size)).size))
              have HN1 := Lib.hid (one_st wr ⟨false, x', y2⟩ 72)
              clear hal
              go_region_law (refine step_tt rfl (.tmp 76) (.tmp 86) rfl w1.heap.size vo pre ⟨false, x', y2⟩ (by go_simp) HO3.out wr.heap.size (by go_simp) HN1.out hlp HBD.out.size ?_; intro v2 w5 hown2 hg2)
              all_goals
                have HO4 := Lib.hid hown2
                have HB4 := Lib.hid (stsAt_app HBD.out HO3.out hg2)
                clear hown2 hg2
                go_wp2_with fail
                exact ⟨⟨t, pre ++ [⟨false, x', y2⟩], rfl, HGO.out, HO4.out, HB4.out⟩, by simp [intOf]; omega⟩
end Go.Proofs.Ytmdcfiejkbhgpaa
/-
  The law's plain (steps as the reference has them), and same.
-/
namespace Go.Proofs.Ytmdcfiejkbhgpaa
open Go.RowKit

set_option maxRecDepth 100000 in
set_option maxHeartbeats 8000000 in
theorem plain_any {w : World} {A : Option Addr} {m c : Nat} {l : List St} (hr : Rd stc 3 w A m l) (hm : m ≤ 1000) :
    Calls Try.prog 40 #[.slice A m c] w fun r w' => ∃ v, r = .returned v ∧ StsAt 72 w' w.heap.size v l ∧ Below w.heap.size w w' := by
  have HL := Lib.hid hr
  have HLN := Lib.hid hr.1
  have hbw : Below w.heap.size w w := Below.refl _ _
  clear hr
  go_enter Try.func40, Try.ntmps40
  go_wp2_with fail
  go_loopw [3, 4] (fun o v wr => ∃ i : Nat, i ≤ m ∧ v = .int .i64 i ∧ StsAt 72 wr w.heap.size o (l.take i) ∧ Below w.heap.size w wr) (fun _ v _ => m - (intOf v).toNat)
  case atStart => exact ⟨0, Nat.zero_le _, rfl, stsAt_nil _ _, hbw⟩
  case round =>
    obtain ⟨vo, rfl⟩ : ∃ vo, vo = u3 := ⟨_, rfl⟩
    obtain ⟨i, hi, rfl, hown, hbr⟩ := hrel
    have HO := Lib.hid hown
    have HB := Lib.hid hbr
    clear hown hbr
    have hi0 : (0 : Int) ≤ i := by omega
    by_cases hlt : i < m
    · have hi1 : (i : Int) < m := by omega
      obtain ⟨x, b1, off1, hx, rfl, hc1⟩ := (HL.out.below HB.out).at_ hlt
      obtain ⟨x1, x2, x3⟩ := x
      have c1 := hc1 0 _ rfl
      have c2 := hc1 1 _ rfl
      have c3 := hc1 2 _ rfl
      rw [Nat.add_zero] at c1
      simp only at c1 c2 c3
      have HN := Lib.hid (take_snoc hx)
      have hlp : (l.take i).length ≤ 1000000 := by rw [List.length_take]; omega
      clear hx hc1
      go_upto_region 5 with fail
      have hal := below_al1 wr (.cells #[.bool x1, .int .i64 x2, .int .i64 x3] 72)
      have HO3 := Lib.hid ((HO.out.below hal).below (below_dN 1))
      have HBD := Lib.hid ((HB.out.trans (hal.mono HB.out.size)).trans ((below_dN (w := wr.alloc (.cells #[.bool x1, .int .i64 x2, .int .i64 x3] 72)) 1).mono (HB.out.trans (hal.mono HB.out.size)).size))
      have HN1 := Lib.hid (one_st wr ⟨x1, x2, x3⟩ 72)
      clear hal
      go_region_law (refine step_tt rfl (.tmp 11) (.tmp 28) rfl w.heap.size vo (l.take i) ⟨x1, x2, x3⟩ (by go_simp) HO3.out wr.heap.size (by go_simp) HN1.out hlp HBD.out.size ?_; intro v2 w5 hown2 hg2)
      all_goals
        have HO4 := Lib.hid hown2
        have HB4 := Lib.hid (stsAt_app HBD.out HO3.out hg2)
        clear hown2 hg2
        go_wp2_with fail
        go_roundw
        case rel => exact ⟨i + 1, by omega, by go_num, by rw [HN.out]; exact HO4.out, HB4.out⟩
        case measure => simp [intOf]; omega
    · obtain rfl : i = m := by omega
      have hge : ¬ (i : Int) < i := by omega
      have HE := Lib.hid (show l.take i = l from List.take_of_length_le (Nat.le_of_eq HLN.out))
      go_wp2_with fail
      go_ret
      exact ⟨_, rfl, by have := HO.out; rwa [HE.out] at this, HB.out⟩

theorem neq_t (x y : St) (w : World) :
    (binOp .neq 72 (.agg #[.bool x.lk, .int .i64 x.f, .int .i64 x.t]) (.agg #[.bool y.lk, .int .i64 y.f, .int .i64 y.t])).run Try.prog w = .ok (.bool (!decide (x = y))) w := by
  have u3 := Try.underlying3
  have a3 := Try.isAgg3
  have z3 := Try.sizeOf3
  have u4 := Try.underlying4
  have a4 := Try.isAgg4
  have z4 := Try.sizeOf4
  have hS : Try.prog.underlying 72 = some (.struct (Try.prog.fieldsOf 72)) := by kernel_rfl
  have hp : Try.prog.stoodInHeld 72 = false := by kernel_rfl
  rw [run_neq_struct, show (10000 : Nat) = 9999 + 1 from rfl, run_equalIn_agg w 9999 72 _ _ hS hp]
  simp only [Program.fieldsOf, Try.underlying72]
  go_simp
  obtain ⟨x1, x2, x3⟩ := x
  obtain ⟨y1, y2, y3⟩ := y
  by_cases h1 : x1 = y1 <;> by_cases h2 : x2 = y2 <;> by_cases h3 : x3 = y3 <;> simp [h1, h2, h3]
theorem guard_t : Try.prog.eqGuardType Try.prog.depth 72 = false := by kernel_rfl

set_option maxRecDepth 100000 in
set_option maxHeartbeats 4000000 in
theorem same28_any {w : World} {A E : Option Addr} {m k c d : Nat} {a b : List St} (ha : Rd stc 3 w A m a) (hb : Rd stc 3 w E k b) (hm : m ≤ 1000000) (hk : k ≤ 1000000) :
    Calls Try.prog 39 #[.slice A m c, .slice E k d] w fun e w' => e = .returned (.bool (decide (a = b))) ∧ Below w.heap.size w w' := by
  have HA := Lib.hid ha
  have HE := Lib.hid hb
  have hbw : Below w.heap.size w w := Below.refl _ _
  have hla := ha.1
  have hlb := hb.1
  clear ha hb
  by_cases hmk : m = k
  · subst hmk
    have HL := Lib.hid (And.intro hla hlb)
    clear hla hlb
    go_enter Try.func39, Try.ntmps39
    go_wp2_with fail
    go_loopw [5] (fun v wr => ∃ i : Nat, i ≤ m ∧ v = .int .i64 i ∧ Alike a b i ∧ Below w.heap.size w wr) (fun v _ => m - (intOf v).toNat)
    case atStart => exact ⟨0, Nat.zero_le _, rfl, alike_zero _ _, hbw⟩
    case round =>
      obtain ⟨i, hi, rfl, hal, hbr⟩ := hrel
      have HAL := Lib.hid hal
      have HB := Lib.hid hbr
      clear hal hbr
      have hi0 : (0 : Int) ≤ i := by omega
      by_cases hlt : i < m
      · obtain ⟨x, b1, off1, hx, rfl, hc1⟩ := (HA.out.below HB.out).at_ hlt
        obtain ⟨y, b2, off2, hy, rfl, hc2⟩ := (HE.out.below HB.out).at_ hlt
        have hi1 : (i : Int) < m := by omega
        obtain ⟨x1, x2, x3⟩ := x
        obtain ⟨y1, y2, y3⟩ := y
        have c1 := hc1 0 _ rfl
        have c2 := hc1 1 _ rfl
        have c3 := hc1 2 _ rfl
        have e1 := hc2 0 _ rfl
        have e2 := hc2 1 _ rfl
        have e3 := hc2 2 _ rfl
        rw [Nat.add_zero] at c1 e1
        simp only at c1 c2 c3 e1 e2 e3
        have hq := fun W => neq_t ⟨x1, x2, x3⟩ ⟨y1, y2, y3⟩ W
        have hg := guard_t
        simp only at hq
        have HX := Lib.hid hx
        have HY := Lib.hid hy
        clear hc1 hc2 hx hy
        by_cases hxy : (⟨x1, x2, x3⟩ : St) = ⟨y1, y2, y3⟩
        · have HN := Lib.hid (alike_succ HAL.out HX.out (by rw [hxy]; exact HY.out))
          rw [show (!decide ((⟨x1, x2, x3⟩ : St) = ⟨y1, y2, y3⟩)) = false by simp [hxy]] at hq
          have HB2 := Lib.hid (fun q => HB.out.trans ((below_dN (w := wr) q).mono HB.out.size))
          clear hxy HX HY HAL
          go_wp2_with fail
          go_quiet (fail)
          go_wp2_with fail
          go_roundw
          case rel => exact ⟨i + 1, by omega, by go_num, HN.out, HB2.out _⟩
          case measure => simp [intOf]; omega
        · have HN := Lib.hid (show decide (a = b) = false by simpa using not_alike HX.out HY.out hxy)
          rw [show (!decide ((⟨x1, x2, x3⟩ : St) = ⟨y1, y2, y3⟩)) = true by simp [hxy]] at hq
          have HB2 := Lib.hid (fun q => HB.out.trans ((below_dN (w := wr) q).mono HB.out.size))
          clear hxy HX HY HAL
          go_wp2_with fail
          go_quiet (fail)
          go_wp2_with fail
          go_ret
          exact ⟨ret_bool HN.out.symm, HB2.out _⟩
      · have hge : ¬ (i : Int) < m := by omega
        have HN := Lib.hid (show decide (a = b) = true by simpa using alike_all (show Alike a b m by rw [show m = i by omega]; exact HAL.out) HL.out.1 HL.out.2)
        clear HAL hi hlt hi0
        go_wp2_with fail
        go_ret
        exact ⟨ret_bool HN.out.symm, HB.out⟩
  · have HN := Lib.hid (show decide (a = b) = false by simp; intro h; rw [h] at hla; omega)
    have d1 : ((m : Int) == (k : Int)) = false := by simp; omega
    clear hla hlb hmk
    go_enter Try.func39, Try.ntmps39
    go_wp2_with fail
    go_ret
    exact ⟨ret_bool HN.out.symm, hbw⟩
end Go.Proofs.Ytmdcfiejkbhgpaa
/-
  The reference's Walk, walked. (Printed by genwalk.py.)
-/
namespace Go.Proofs.Ytmdcfiejkbhgpaa
open Go.RowKit

/-- block p holds a step -/
def BoxS (ty : TypeId) (W : World) (p : Nat) (x : St) : Prop := W.heap[p]? = some (.cells #[.bool x.lk, .int .i64 x.f, .int .i64 x.t] ty (0, 0))
section
variable {ty : TypeId} {W W' : World} {p : Nat} {x : St}
theorem BoxS.cells (h : BoxS ty W p x) : p < W.heap.size ∧ W.cell? ⟨p, 0, none⟩ = some (.bool x.lk) ∧ W.cell? ⟨p, 1, none⟩ = some (.int .i64 x.f) ∧ W.cell? ⟨p, 2, none⟩ = some (.int .i64 x.t) := by
  have h' : W.heap[p]? = _ := h
  refine ⟨(Array.getElem?_eq_some_iff.1 h').1, ?_, ?_, ?_⟩ <;> (rw [cell_of_row _ _ _ _ _ (0, 0) h']; rfl)
theorem BoxS.below (h : BoxS ty W p x) (hb : Below W.heap.size W W') : BoxS ty W' p x := (hb.block p h.cells.1).trans h
theorem BoxS.frozen (h : BoxS ty W p x) (j : Nat) : W.frozen? ⟨p, j, none⟩ = false := frozen_of_row W p j _ _ h
end
theorem IntsAt.rdc {w : World} {B : Nat} {v : Value} {l : List Int} (h : IntsAt w B v l) : ∃ A c, v = .slice A l.length c ∧ l.length ≤ c ∧ Rd intc 1 w A l.length l := by
  have h' : w.ownsRow B 3 1 v l.length (flatE intc l) := by rw [flat_intc]; exact h
  obtain ⟨A, c, hv, hc, hr⟩ := Rd.of_own intc_len (by decide) h'
  exact ⟨A, c, hv, hc, hr⟩
/-- the cells of a row behind its first -/
theorem tail_cells {w : World} {A : Option Addr} {c : Nat} {x : Int} {r : List Int} (h : Rd intc 1 w A (r.length + 1) (x :: r)) (hc : r.length + 1 ≤ c) :
    ∃ b o, A = some ⟨b, o, none⟩ ∧ ∃ ad, (if c = 1 then some (⟨b, o, none⟩ : Addr) else some ⟨b, o + 1, none⟩) = some ad ∧ ∀ j u, (ints r)[j]? = some u → w.cell? (ad.add j) = some u := by
  obtain ⟨b, o, hA, h0⟩ := h.2 0 x rfl
  refine ⟨b, o, hA, ?_⟩
  by_cases e : c = 1
  · have hr : r = [] := List.eq_nil_of_length_eq_zero (by omega)
    subst hr
    exact ⟨_, if_pos e, fun j u hu => by simp [ints] at hu⟩
  · refine ⟨_, if_neg e, fun j u hu => ?_⟩
    have hadd : (⟨b, o + 1, none⟩ : Addr).add j = ⟨b, o + 1 + j, none⟩ := by unfold Addr.add; split <;> simp_all
    rw [hadd]
    unfold ints at hu
    rw [List.getElem?_map] at hu
    cases hj : r[j]? with
    | none => rw [hj] at hu; cases hu
    | some y =>
      rw [hj] at hu
      cases hu
      obtain ⟨b', o', hA', h1⟩ := h.2 (j + 1) y (by simpa using hj)
      rw [hA] at hA'
      cases hA'
      have := h1 0 _ rfl
      rwa [show o + (j + 1) * 1 + 0 = o + 1 + j by omega] at this
/-- numbers put behind a row of the call's own -/
theorem app_ints {ops : Array Oper} {rest : List Oper} {o : Oper} {a : Act} {w : World} {Q : Exit → Act → World → Prop} (hgd : o.guard = none) (s x : Operand)
    (ho : o.op = .call { callee := .builtin .append, args := #[s, x], argTypes := #[29, 29] })
    (B : Nat) (v : Value) (l r : List Int) (hs : a.eval s = v) (hown : IntsAt w B v l) (ad : Addr) (c : Nat) (hx : a.eval x = .slice (some ad) r.length c) (hr : ∀ j u, (ints r)[j]? = some u → w.cell? (ad.add j) = some u)
    (hsz : l.length + r.length ≤ 1000000) (hB : B ≤ w.heap.size)
    (h : ∀ v' w', IntsAt w' B v' (l ++ r) → w.grownBy w' v.ownBlock → wpList Try.prog ops Q rest (a.put o.dst v') w') : wpList Try.prog ops Q (o :: rest) a w := by
  obtain ⟨i0, hi, hz0, hz1, hz2⟩ := info_parts Try.info_int
  refine wpList_append_own_at w hgd s x 29 ho B 3 i0 (.int .i64 0) 1 8 Try.underlying29 hi hz0 hz1 hz2 rfl (by decide) v _ _ hs hown ad r.length c (ints r) hx (by simp [ints]) hr ?_ (by unfold maxLen; omega) (by omega) hB ?_
  · intro u hu
    obtain ⟨z, _, rfl⟩ := List.mem_map.1 hu
    rfl
  · intro v' w' hown' hg _ _
    refine h v' w' ?_ hg
    unfold IntsAt ints
    rw [List.map_append, List.length_append]
    exact hown'

set_option maxRecDepth 100000 in
set_option maxHeartbeats 8000000 in
theorem rwalk_any {w : World} {A E : Option Addr} {m c k q : Nat} {l : List Lk} {xs : List St} (hr : Rd lkc 3 w A m l) (n s d : Int) (hm : m ≤ 1000) (hx : Rd stc 3 w E k xs) (hk : k ≤ 1000) :
    Calls Try.prog 42 #[.int .i64 n, .slice A m c, .int .i64 s, .int .i64 d, .slice E k q] w fun r w' => ∃ v, r = .returned v ∧ IntsAt w' w.heap.size v (walkV n l s d xs) ∧ Below w.heap.size w w' := by
  have HRI := Lib.hid (rright2_any (c := c) hr n s d hm)
  have HL := Lib.hid hr
  have HX := Lib.hid hx
  have HXL := Lib.hid hx.1
  clear hr hx
  cases hg : (rightG n l s && rightG n l d) with
  | false =>
    have HE := Lib.hid (show walkV n l s d xs = [] by unfold walkV; rw [if_neg (by rw [hg]; simp)])
    rw [hg] at HRI
    clear hg
    go_enter Try.func42, Try.ntmps42
    go_wp2_with fail
    refine (HRI.out).mono ?_
    rintro r w1 ⟨rfl, hb1⟩
    go_wp2_with fail
    go_ret
    exact ⟨_, rfl, by rw [HE.out]; exact intsAt_nil _ _, hb1⟩
  | true =>
    rw [hg] at HRI
    have HRG := Lib.hid hg
    rw [Bool.and_eq_true] at hg
    obtain ⟨hgk, hz0, hz1⟩ := rightG_ok.1 hg.1
    have HGK := Lib.hid hgk
    have HSM := Lib.hid (small_gok hgk)
    clear hg hgk hz0 hz1
    go_enter Try.func42, Try.ntmps42
    go_wp2_with fail
    refine (HRI.out).mono ?_
    rintro r w1 ⟨rfl, hb1⟩
    have HB1 := Lib.hid hb1
    clear hb1 HRI
    go_wp2_with fail
    have HO0 := Lib.hid (intsAt_one (w := w1) (B := w.heap.size) HB1.out.size s)
    have HB0 := Lib.hid (HB1.out.trans ((below_al1 w1 (.cells #[.int .i64 s] 3)).mono HB1.out.size))
    go_loopw [12, 13, 14] (fun o av v wr => ∃ (i : Nat) (out : List Int) (at_ : Int), v = .int .i64 i ∧ av = .int .i64 at_ ∧ ((i ≤ k ∧ WkAt n l s xs i out at_) ∨ (i = k + 1 ∧ walkV n l s d xs = out)) ∧ IntsAt wr w.heap.size o out ∧ Below w.heap.size w wr) (fun _ _ v _ => k + 1 - (intOf v).toNat)
    case atStart => exact ⟨0, [s], s, rfl, rfl, .inl ⟨Nat.zero_le _, wkAt_start _ _⟩, HO0.out, HB0.out⟩
    case round =>
      obtain ⟨vo, rfl⟩ : ∃ vo, vo = u12 := ⟨_, rfl⟩
      obtain ⟨i, out, at_, rfl, rfl, hinv, hown, hbr⟩ := hrel
      have HO := Lib.hid hown
      have HB := Lib.hid hbr
      clear hown hbr HO0 HB0
      have hi0 : (0 : Int) ≤ i := by omega
      rcases hinv with ⟨hik, hwk⟩ | ⟨rfl, hfin⟩
      · have HWK := Lib.hid hwk
        have hlo := hwk.len
        have hle : (i : Int) ≤ k := by omega
        clear hwk
        have HBX0 := Lib.hid (show BoxS 72 (wr.alloc (.cells #[.bool false, .int .i64 at_, .int .i64 d] 72)) wr.heap.size ⟨false, at_, d⟩ from heap_alloc_new _ _)
        have HAL := Lib.hid (below_al1 wr (.cells #[.bool false, .int .i64 at_, .int .i64 d] 72))
        by_cases hlt : i < k
        · have hi1 : (i : Int) < k := by omega
          obtain ⟨x, b1, o1, hx, rfl, hc⟩ := (HX.out.below HB.out).at_ hlt
          have c0 := hc 0 _ rfl
          have c1 := hc 1 _ rfl
          have c2 := hc 2 _ rfl
          simp only [Nat.add_zero] at c0
          have HXX := Lib.hid hx
          have hb1 : b1 < wr.heap.size := World.block_lt_of_cell? wr _ c0
          clear hx hc
          obtain ⟨xl, xf, xt⟩ := x
          simp only at c0 c1 c2
          go_upto_region 12 with fail
          have hal := below_al1 wr (.cells #[.bool xl, .int .i64 xf, .int .i64 xt] 72)
          have HBX := Lib.hid (show BoxS 72 (wr.alloc (.cells #[.bool xl, .int .i64 xf, .int .i64 xt] 72)) wr.heap.size ⟨xl, xf, xt⟩ from heap_alloc_new _ _)
          have HB2 := Lib.hid (HB.out.trans (hal.mono HB.out.size))
          have HO2 := Lib.hid (HO.out.below hal)
          have HNB := Lib.hid (fun g h => (World.ownsRow.lt HO.out g h).2)
          clear hal
          generalize wr.heap.size = bx at HBX HNB ⊢
          generalize World.alloc _ _ = w2 at HBX HB2 HO2 ⊢
          obtain ⟨z3, z0, z1, z2⟩ := HBX.out.cells
          have HPA := Lib.hid (rpath_any (c := c) (HL.out.below HB2.out) n xf xt hm)
          cases xl with
          | true =>
            have HWS := Lib.hid (show wayS n l ⟨true, xf, xt⟩ = [xf, xt] from if_pos rfl)
            have HOK := Lib.hid (show okS n l ⟨true, xf, xt⟩ = (costG l [xf, xt]).isSome by unfold okS; rw [HWS.out])
            have HCV := Lib.hid (show costV l [xf, xt] = .tuple #[.int .i64 ((costG l [xf, xt]).getD 0), .bool (costG l [xf, xt]).isSome] from rfl)
            go_wp2_with fail
            refine (HPA.out).mono ?_
            rintro rr w3 ⟨v, rfl, hv, hb3⟩
            obtain ⟨F, fc, rfl, -, -⟩ := hv.rdc
            have HB3 := Lib.hid (HB2.out.trans (hb3.mono HB2.out.size))
            have HO3 := Lib.hid (HO2.out.below hb3)
            have HX3 := Lib.hid (HBX.out.below hb3)
            obtain ⟨q0, q1, q2, q3⟩ := HX3.out.cells
            clear hv hb3 z0 z1 z2 z3
            go_wp2_with fail
            have hal := below_al1 w3 (.cells #[.int .i64 xf, .int .i64 xt] 3)
            have HCO := Lib.hid (rcostw_any (c := c) (d := 2) (HL.out.below (HB3.out.trans (hal.mono HB3.out.size))) (rd_ints w3 [xf, xt]) HSM.out hm (by simp))
            have HX4 := Lib.hid (HX3.out.below hal)
            have HO4 := Lib.hid (HO3.out.below hal)
            have HB4 := Lib.hid (HB3.out.trans (hal.mono HB3.out.size))
            have HC4 := Lib.hid (new_cells w3 [.int .i64 xf, .int .i64 xt] 3)
            rw [HCV.out] at HCO
            clear hal HX3 HO3 HB3 q0 q1 q2 q3 HCV
            generalize (costG l [xf, xt]).isSome = ok at HCO HOK
            generalize (costG l [xf, xt]).getD 0 = cz at HCO
            refine (HCO.out).mono ?_
            rintro rr w5 ⟨rfl, hb5⟩
            have HX5 := Lib.hid (HX4.out.below hb5)
            have HO5 := Lib.hid (HO4.out.below hb5)
            have HB5 := Lib.hid (HB4.out.trans (hb5.mono HB4.out.size))
            have HC5 := Lib.hid (show ∀ j u, (ints [xt])[j]? = some u → w5.cell? ((⟨w3.heap.size, 1, none⟩ : Addr).add j) = some u from fun j u hu => by
              cases j with
              | zero =>
                have h1 := HC4.out 1 u (by simpa [ints] using hu)
                have hadd : (⟨w3.heap.size, 0, none⟩ : Addr).add 1 = ⟨w3.heap.size, 1, none⟩ := by simp [Addr.add]
                have hadd2 : (⟨w3.heap.size, 1, none⟩ : Addr).add 0 = ⟨w3.heap.size, 1, none⟩ := by simp [Addr.add]
                rw [hadd] at h1
                rw [hadd2]
                exact (hb5.cell (World.block_lt_of_cell? _ _ h1)).trans h1
              | succ j => simp [ints] at hu)
            obtain ⟨q0, q1, q2, q3⟩ := HX5.out.cells
            clear hb5 HX4 HO4 HB4 HC4 HCO
            cases ok with
            | false =>
              have HE := Lib.hid (HWK.out.bad HXX.out (d := d) (.inl HOK.out))
              go_wp2_with fail
              go_ret
              exact ⟨_, rfl, by rw [HE.out]; exact intsAt_nil _ _, HB5.out⟩
            | true =>
              by_cases hfa : xf = at_
              · have HNX := Lib.hid (HWK.out.next HXX.out HOK.out hfa)
                rw [show (wayS n l ⟨true, xf, xt⟩).tail = [xt] by rw [HWS.out]; rfl] at HNX
                subst hfa
                go_wp2_with (at_builtin; refine app_ints rfl (.tmp 77) (.tmp 79) rfl w.heap.size _ out [xt] rfl HO5.out ⟨w3.heap.size, 1, none⟩ 1 rfl HC5.out (by simp; omega) HB5.out.size ?_; intro v2 w4 hown2 hg2; have HO4 := Lib.hid hown2; have HB4 := Lib.hid (intsAt_app HB5.out HO5.out hg2); have HX4 := Lib.hid (show BoxS 72 w4 bx _ from (hg2.block bx q0 (fun h => Nat.lt_irrefl _ (HNB.out _ h.symm))).trans HX5.out); obtain ⟨r0, r1, r2, r3⟩ := HX4.out.cells; clear hown2 hg2)
                go_roundw
                case rel => exact ⟨i + 1, out ++ [xt], xt, by go_num, rfl, .inl ⟨by omega, HNX.out⟩, HO4.out, HB4.out⟩
                case measure => simp [intOf]; omega
              · have HE := Lib.hid (HWK.out.bad HXX.out (d := d) (.inr hfa))
                go_wp2_with fail
                go_ret
                exact ⟨_, rfl, by rw [HE.out]; exact intsAt_nil _ _, HB5.out⟩
          | false =>
            have HPO := Lib.hid (okS_path HGK.out xf xt)
            cases hp : pathG n l xf xt with
            | nil =>
              rw [hp] at HPA HPO
              have HE := Lib.hid (HWK.out.bad HXX.out (d := d) (.inl HPO.out))
              clear hp
              go_wp2_with fail
              refine (HPA.out).mono ?_
              rintro rr w3 ⟨v, rfl, hv, hb3⟩
              obtain ⟨F, fc, rfl, -, -⟩ := hv.rdc
              have HB3 := Lib.hid (HB2.out.trans (hb3.mono HB2.out.size))
              obtain ⟨q0, q1, q2, q3⟩ := (HBX.out.below hb3).cells
              clear hv hb3
              by_cases hfa : xf = at_
              · subst hfa
                go_wp2_with fail
                go_ret
                exact ⟨_, rfl, by rw [HE.out]; exact intsAt_nil _ _, HB3.out⟩
              · go_wp2_with fail
                go_ret
                exact ⟨_, rfl, by rw [HE.out]; exact intsAt_nil _ _, HB3.out⟩
            | cons a r =>
              rw [hp] at HPA HPO
              by_cases hfa : xf = at_
              · have HNX := Lib.hid (HWK.out.next HXX.out HPO.out hfa)
                rw [show (wayS n l ⟨false, xf, xt⟩).tail = r by unfold wayS; simp [hp]] at HNX
                have hrl : r.length ≤ 64 := by have := pathG_few n l xf xt; rw [hp] at this; simp at this; omega
                clear hp
                subst hfa
                go_wp2_with fail
                refine (HPA.out).mono ?_
                rintro rr w3 ⟨v, rfl, hv, hb3⟩
                obtain ⟨F, fc, rfl, hfc, hrd⟩ := hv.rdc
                obtain ⟨fb, fo, rfl, ad, had, hcl⟩ := tail_cells hrd hfc
                have HB3 := Lib.hid (HB2.out.trans (hb3.mono HB2.out.size))
                have HO3 := Lib.hid (HO2.out.below hb3)
                have HCL := Lib.hid hcl
                have HX3 := Lib.hid (HBX.out.below hb3)
                obtain ⟨q0, q1, q2, q3⟩ := HX3.out.cells
                have d2 : ((r.length : Int) + 1 == 0) = false := by simp; omega
                clear hv hb3 hcl hrd
                go_wp2_with (at_builtin; refine app_ints rfl (.tmp 77) (.tmp 79) rfl w.heap.size _ out r rfl HO3.out ad (fc - 1) rfl HCL.out (by omega) HB3.out.size ?_; intro v2 w4 hown2 hg2; have HO4 := Lib.hid hown2; have HB4 := Lib.hid (intsAt_app HB3.out HO3.out hg2); have HX4 := Lib.hid (show BoxS 72 w4 bx _ from (hg2.block bx q0 (fun h => Nat.lt_irrefl _ (HNB.out _ h.symm))).trans HX3.out); obtain ⟨r0, r1, r2, r3⟩ := HX4.out.cells; clear hown2 hg2)
                go_roundw
                case rel => exact ⟨i + 1, out ++ r, xt, by go_num, rfl, .inl ⟨by omega, HNX.out⟩, HO4.out, HB4.out⟩
                case measure => simp [intOf]; omega
              · have HE := Lib.hid (HWK.out.bad HXX.out (d := d) (.inr hfa))
                clear hp
                go_wp2_with fail
                refine (HPA.out).mono ?_
                rintro rr w3 ⟨v, rfl, hv, hb3⟩
                obtain ⟨F, fc, rfl, -, -⟩ := hv.rdc
                have HB3 := Lib.hid (HB2.out.trans (hb3.mono HB2.out.size))
                obtain ⟨q0, q1, q2, q3⟩ := (HBX.out.below hb3).cells
                clear hv hb3
                go_wp2_with fail
                go_ret
                exact ⟨_, rfl, by rw [HE.out]; exact intsAt_nil _ _, HB3.out⟩
        · obtain rfl : i = k := by omega
          have hge : ¬ (i : Int) < i := by omega
          go_upto_region 12 with fail
          have hal := below_al1 wr (.cells #[.bool false, .int .i64 at_, .int .i64 d] 72)
          have HBX := Lib.hid (show BoxS 72 (wr.alloc (.cells #[.bool false, .int .i64 at_, .int .i64 d] 72)) wr.heap.size ⟨false, at_, d⟩ from heap_alloc_new _ _)
          have HB2 := Lib.hid (HB.out.trans (hal.mono HB.out.size))
          have HO2 := Lib.hid (HO.out.below hal)
          have HNB := Lib.hid (fun g h => (World.ownsRow.lt HO.out g h).2)
          clear hal
          generalize wr.heap.size = bx at HBX HNB ⊢
          generalize World.alloc _ _ = w2 at HBX HB2 HO2 ⊢
          obtain ⟨z3, z0, z1, z2⟩ := HBX.out.cells
          have HPA := Lib.hid (rpath_any (c := c) (HL.out.below HB2.out) n at_ d hm)
          have HPO := Lib.hid (okS_path HGK.out at_ d)
          cases hp : pathG n l at_ d with
          | nil =>
            rw [hp] at HPA HPO
            have HE := Lib.hid (HWK.out.lost (d := d) (Nat.le_of_eq HXL.out) HPO.out)
            clear hp
            go_wp2_with fail
            refine (HPA.out).mono ?_
            rintro rr w3 ⟨v, rfl, hv, hb3⟩
            obtain ⟨F, fc, rfl, -, -⟩ := hv.rdc
            have HB3 := Lib.hid (HB2.out.trans (hb3.mono HB2.out.size))
            obtain ⟨q0, q1, q2, q3⟩ := (HBX.out.below hb3).cells
            clear hv hb3
            go_wp2_with fail
            go_ret
            exact ⟨_, rfl, by rw [HE.out]; exact intsAt_nil _ _, HB3.out⟩
          | cons a r =>
            rw [hp] at HPA HPO
            have HNX := Lib.hid (HWK.out.last (d := d) (Nat.le_of_eq HXL.out) HRG.out HPO.out)
            rw [show (wayS n l ⟨false, at_, d⟩).tail = r by unfold wayS; simp [hp]] at HNX
            have hrl : r.length ≤ 64 := by have := pathG_few n l at_ d; rw [hp] at this; simp at this; omega
            clear hp
            go_wp2_with fail
            refine (HPA.out).mono ?_
            rintro rr w3 ⟨v, rfl, hv, hb3⟩
            obtain ⟨F, fc, rfl, hfc, hrd⟩ := hv.rdc
            obtain ⟨fb, fo, rfl, ad, had, hcl⟩ := tail_cells hrd hfc
            have HB3 := Lib.hid (HB2.out.trans (hb3.mono HB2.out.size))
            have HO3 := Lib.hid (HO2.out.below hb3)
            have HCL := Lib.hid hcl
            have HX3 := Lib.hid (HBX.out.below hb3)
            obtain ⟨q0, q1, q2, q3⟩ := HX3.out.cells
            have d2 : ((r.length : Int) + 1 == 0) = false := by simp; omega
            clear hv hb3 hcl hrd
            go_wp2_with (at_builtin; refine app_ints rfl (.tmp 77) (.tmp 79) rfl w.heap.size _ out r rfl HO3.out ad (fc - 1) rfl HCL.out (by omega) HB3.out.size ?_; intro v2 w4 hown2 hg2; have HO4 := Lib.hid hown2; have HB4 := Lib.hid (intsAt_app HB3.out HO3.out hg2); have HX4 := Lib.hid (show BoxS 72 w4 bx _ from (hg2.block bx q0 (fun h => Nat.lt_irrefl _ (HNB.out _ h.symm))).trans HX3.out); obtain ⟨r0, r1, r2, r3⟩ := HX4.out.cells; clear hown2 hg2)
            go_roundw
            case rel => exact ⟨i + 1, out ++ r, d, by go_num, rfl, .inr ⟨rfl, HNX.out⟩, HO4.out, HB4.out⟩
            case measure => simp [intOf]
      · have hgt : ¬ (k : Int) + 1 ≤ k := by omega
        have HF := Lib.hid hfin
        clear hfin
        go_wp2_with fail
        go_ret
        exact ⟨_, rfl, by rw [HF.out]; exact HO.out, HB.out⟩
end Go.Proofs.Ytmdcfiejkbhgpaa
