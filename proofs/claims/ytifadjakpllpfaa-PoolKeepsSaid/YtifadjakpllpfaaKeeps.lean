/-
  The law PoolKeeps, walked.
-/
import Derived.Test.YtifadjakpllpfaaLowest
namespace Go.Proofs.Ytifadjakpllpfaa
open Go.RowKit

/-- all but the blocks of one type stays -/
def ExtU (u : TypeId) (w w' : World) : Prop := ∀ (k : Nat) (cs : Array Value) (t : TypeId) (fr : Nat × Nat), w.heap[k]? = some (.cells cs t fr) → t ≠ u → w'.heap[k]? = some (.cells cs t fr)
theorem ExtU.set {u : TypeId} {w : World} {h j : Nat} {cs0 : Array Value} {fr0 : Nat × Nat} (hh : w.heap[h]? = some (.cells cs0 u fr0)) (x : Value) : ExtU u w (w.setCell ⟨h, j, none⟩ x) := fun k cs t fr hk ht => by
  rw [heap_setCell_other w _ k x (by rintro rfl; rw [hh] at hk; simp at hk; exact ht hk.2.1.symm)]
  exact hk
theorem own_extU {u : TypeId} {w w' : World} {base n size : Nat} {e : TypeId} {v : Value} {xs : List Value} (h : w.ownsRow base e size v n xs) (he : e ≠ u) (hx : ExtU u w w') : w'.ownsRow base e size v n xs := by
  refine ⟨h.1, ?_⟩
  rcases h.2 with h0 | ⟨g, cap, cur, hv, hb, hg, r⟩
  · exact .inl h0
  · exact .inr ⟨g, cap, cur, hv, hb, hx _ _ _ _ hg he, r⟩
theorem PoolIs.extU {u : TypeId} {w w' : World} {B g : Nat} {room cnt : Int} {v : Value} {ts : List (Value × Int)} (h : PoolIs w B g room cnt v ts) (h1 : 66 ≠ u) (h2 : 79 ≠ u) (hx : ExtU u w w') : PoolIs w' B g room cnt v ts :=
  ⟨h.low, hx _ _ _ _ h.blk h1, own_extU h.own h2 hx, h.uses, h.one, h.len⟩

theorem own_blk {w : World} {base g n cap size : Nat} {e : TypeId} {xs : List Value} (h : w.ownsRow base e size (.slice (some ⟨g, 0, none⟩) n cap) n xs) : ∃ cur, w.heap[g]? = some (.cells cur e (0, 0)) := by
  rcases h.2 with ⟨h0, _⟩ | ⟨g', cap', cur, hv, hb, hg, r⟩
  · cases h0
  · cases hv
    exact ⟨cur, hg⟩

theorem put_put {α : Type} (l : List α) {s : Nat} (x y : α) (hs : s ≤ l.length) : (put l s x).set s y = put l s y := by
  unfold put
  split
  · rename_i h; subst h; simp
  · rw [List.set_set]
theorem slot_zero {ts : List (Value × Int)} {t : Value × Int} (ht : ts[slot ts]? = some t) : t.2 = 0 := by
  obtain ⟨hl, rfl⟩ := List.getElem?_eq_some_iff.1 ht
  have h := List.findIdx_getElem (w := hl)
  have h' : (ts[List.findIdx free ts]).2 = 0 := by simpa [free] using h
  exact h'
theorem used_put (ts : List (Value × Int)) (t' : Value × Int) : used (put ts (slot ts) t') = used ts + if t'.2 ≠ 0 then 1 else 0 := by
  unfold put
  split
  · exact used_append ts t'
  · rename_i h
    obtain ⟨t, ht⟩ := at_lt (l := ts) rfl (show slot ts < ts.length by have := slot_le ts; omega)
    have := used_set (t' := t') ht
    rw [if_neg (by have := slot_zero ht; omega)] at this
    omega

theorem look_zero {ts : List (Value × Int)} {i : Nat} {t : Value × Int} (ht : ts[i]? = some t) (h : t.2 = 0) : look ts i = none := by
  unfold look
  rw [if_neg]
  rintro ⟨_, _, h3⟩
  rw [show ((i : Int).toNat) = i by omega, getD_of ht] at h3
  exact h3 h

set_option maxRecDepth 100000 in
set_option maxHeartbeats 8000000 in
theorem keeps_any (SA : Option Addr) (m sc : Nat) (script : List Stp) (op port backup : Int) (L R : Option Addr) (ln lc rn rc : Nat) (pipe : Bool) (ll rl : List Int) (more : Int) (W : World) (hs : Rd stp 9 W SA m script ∧ m ≤ maxLen ∧ ∀ s ∈ script, StpRd W s)
    (hl : Rd int1 1 W L ln ll ∧ Rd int1 1 W R rn rl) (hmo : 0 ≤ more ∧ more ≤ 255) :
    Calls Try.prog 4 #[.slice SA m sc, .agg #[.int .i64 op, .slice L ln lc, .int .i64 port, .int .i64 backup, .slice R rn rc, .bool pipe], .int .u8 more] W fun e w' => e = .returned (.bool true) ∧ Below W.heap.size W w' := by
  have hal : Below W.heap.size W (W.alloc (.cells #[.int .i64 op, .slice L ln lc, .int .i64 port, .int .i64 backup, .slice R rn rc, .bool pipe] 35)) := by go_grown
  have HA := Lib.hid (awake_any (W.alloc (.cells #[.int .i64 op, .slice L ln lc, .int .i64 port, .int .i64 backup, .slice R rn rc, .bool pipe] 35)))
  have HS := Lib.hid (fun w1 (h : Below W.heap.size W w1) => small_any SA m sc script w1 (hs.1.below h) hs.2.1)
  have HBOX := Lib.hid (heap_alloc_new W (.cells #[.int .i64 op, .slice L ln lc, .int .i64 port, .int .i64 backup, .slice R rn rc, .bool pipe] 35))
  have HAL := Lib.hid hal
  have HRD := Lib.hid hs
  have HLR := Lib.hid hl
  have hlen := hs.1.1
  have hll := hl.1.1
  clear hs hl hal
  go_enter Try.func4, Try.ntmps4
  go_wp2_with fail
  refine (HA.out).mono ?_
  rintro e w1 ⟨rfl, hb1⟩
  have HB1 := Lib.hid (below_step HAL.out hb1)
  have HX1 := Lib.hid ((hb1.block _ (by simp)).trans HBOX.out)
  clear hb1 HA HBOX HAL
  go_wp2_with fail
  refine (HS.out _ HB1.out).mono ?_
  rintro e w2 ⟨rfl, hb2⟩
  have HB2 := Lib.hid (below_step HB1.out hb2)
  have HX2 := Lib.hid ((hb2.block _ (Array.getElem?_eq_some_iff.1 HX1.out).1).trans HX1.out)
  obtain ⟨y0, y1, y2, y3, y4, y5⟩ := six_box HX2.out
  have hWlt : W.heap.size < w2.heap.size := (Array.getElem?_eq_some_iff.1 HX2.out).1
  clear hb2 HS HB1 HX1
  by_cases hsm : smallB script = true
  · obtain ⟨hm, hfew⟩ := few_of hsm
    rw [hlen] at hm
    have HFEW := Lib.hid hfew
    rw [hsm]
    clear hfew hsm
    by_cases h0 : ln = 0
    · have d0 : ((ln : Int) == 0) = true := by simp [h0]
      go_wp2
      go_ret
      exact ⟨rfl, HB2.out⟩
    have d0 : ((ln : Int) == 0) = false := by simp; omega
    by_cases h1 : 20 < ln
    · have d1 : decide ((ln : Int) > 20) = true := by simp; omega
      go_wp2
      go_ret
      exact ⟨rfl, HB2.out⟩
    have d1 : decide ((ln : Int) > 20) = false := by simp; omega
    by_cases h2 : 20 < rn
    · have d2 : decide ((rn : Int) > 20) = true := by simp; omega
      go_wp2
      go_ret
      exact ⟨rfl, HB2.out⟩
    have d2 : decide ((rn : Int) > 20) = false := by simp; omega
    go_wp2_with fail
    refine (new_any 100 w2 (by decide) (by decide)).mono ?_
    rintro e w3 ⟨rfl, hp3, hb3⟩
    have HST : Hid (St W w3 w2.heap.size 100 0 (some ⟨w2.heap.size, 0, none⟩) true none 0 0 [] []) := .live _ _ _ _ _ _ (Live.start hp3)
    have HB3 := Lib.hid hb3
    clear hp3 hb3
    go_wp2_with fail
    refine (rnew_any 100 w3).mono ?_
    rw [if_neg (by decide)]
    rintro e w4 ⟨rfl, hb4⟩
    have HB4 := Lib.hid hb4
    have hlow : w2.heap.size ≤ w4.heap.size := Nat.le_trans HB3.out.size hb4.size
    have hal : Below w3.heap.size w3 (w4.alloc (.cells #[.bool true, .int .i64 100, .slice none 0 0] 30)) := below_step hb4 (by go_grown)
    have HAL := Lib.hid (below_step HB3.out hal)
    have HRUN := Lib.hid (run_any (HST.out.ext (Ext.below hal)) SA m sc script HRD.out.1 hm HRD.out.2.2 HFEW.out HB2.out.size (below_step (below_step HB2.out HB3.out) hal) (Nat.le_trans HB3.out.size hal.size))
    have HXP := Lib.hid (heap_alloc_new w4 (.cells #[.bool true, .int .i64 100, .slice none 0 0] 30))
    clear hb4 hal HST
    go_wp2_with fail
    refine (HRUN.out).mono ?_
    rintro e w6 ⟨A, n, c, ts, xs, rfl, hst, hmut⟩
    have hxp6 := hmut.box HXP.out (by decide) (by decide)
    have HQ := Lib.hid (setP3 hxp6 ((Mut.below (B := w2.heap.size) (show Below w4.heap.size w4 _ by go_grown)).trans hmut) (Nat.le_refl _) (.bool true) (.int .i64 100) (.slice A n c))
    have HS6 := Lib.hid hst
    have hxh6 := hmut.box ((HAL.out.block _ hWlt).trans HX2.out) (by decide) (by decide)
    have HXH6 := Lib.hid hxh6
    obtain ⟨u0, u1, u2, f0, f1, f2⟩ := three_box hxp6
    clear hst hmut hxp6 HRUN y0 y1 y2 y3 y4 y5 hxh6
    go_upto_region 11 with fail
    clear u0 u1 u2 f0 f1 f2
    have hq := HQ.out
    clear HQ
    generalize ((w6.setCell ⟨w4.heap.size, 0, none⟩ (.bool true)).setCell ⟨w4.heap.size, 1, none⟩ (.int .i64 100)).setCell ⟨w4.heap.size, 2, none⟩ (.slice A n c) = w7 at hq ⊢
    obtain ⟨q1, -, q3, q4⟩ := hq
    have HL7 : Hid (Live W w7 w2.heap.size w2.heap.size 100 A n c ts xs m) := by
      cases HS6.out with
      | live g _ _ _ _ _ L => exact L.ext q3
    have HXP7 := Lib.hid q1
    have HXH7 := Lib.hid (q3 _ _ _ _ HXH6.out (by decide))
    have HM7 := Lib.hid q4
    have HW7 := Lib.hid (below_step HB2.out ((below_step HB3.out HB4.out).trans (q4.lt hlow)))
    clear q1 q3 q4 HS6 HXH6 HXP HAL
    obtain ⟨v7, hp7⟩ := HL7.out.pool
    have HP7 := Lib.hid hp7
    have hsz := HL7.out.size
    have HUE := Lib.hid (HL7.out.rel.usedEq HL7.out.bds)
    have HOX7 := Lib.hid HL7.out.own
    have hn60 : n ≤ 60 := by have := HL7.out.rd.2; omega
    clear hp7
    obtain ⟨x0, lb, lo, hx0, rfl, hlc⟩ := HLR.out.1.at_ (i := 0) (by omega)
    have HX0 := Lib.hid hx0
    have HLC := Lib.hid ((HLR.out.1.below HW7.out).cells int1_len (by decide))
    have HLL := Lib.hid (show (flatE int1 ll).length = ln * 1 by rw [flatE_length int1_len, hll])
    clear hlc hx0
    obtain ⟨i0, hi, hz0, hz1, hz2⟩ := info_parts info_int
    have HI := Lib.hid hi; have HZ0 := Lib.hid hz0; have HZ1 := Lib.hid hz1; have HZ2 := Lib.hid hz2
    clear hi hz0 hz1 hz2
    obtain ⟨y0, y1, y2, y3, y4, y5⟩ := six_box HXH7.out
    have hW7 : W.heap.size < w7.heap.size := (Array.getElem?_eq_some_iff.1 HXH7.out).1
    go_wp2_with
      (at_builtin
       refine wpList_append_own _ rfl _ _ 23 rfl w7.heap.size 3 i0 (.int .i64 0) 1 8 Try.underlying23 HI.out HZ0.out HZ1.out HZ2.out rfl (by decide) _ 0 _ rfl
         (World.ownsRow_nil _ _ _ _) ⟨lb, lo, none⟩ ln lc (flatE int1 ll) rfl HLL.out HLC.out (int1_one _) (by simp [maxLen]; omega) (by omega) (Nat.le_refl _) ?_
       intro v8 w8 hown8 hgrow8 _
       have hb8 : Below w7.heap.size w7 w8 := (Below.refl _ _).grown hgrow8 (Nat.le_refl _) (fun g e => nomatch (show none = some g from e))
       have hown8' : w8.ownsRow w7.heap.size 3 1 v8 ln (flatE int1 ll) := by rw [Nat.zero_add] at hown8; exact hown8
       obtain ⟨-, hz⟩ | ⟨go, co, rfl, hgo7, hgo8, hco, -⟩ := own_form hown8'
       · omega
       clear y0 y1 y2 y3 y4 y5
       have hxh8 := (hb8.block _ hW7).trans HXH7.out
       obtain ⟨y0, y1, y2, y3, y4, y5⟩ := six_box hxh8
       have fy := frozen_of_row w8 W.heap.size 1 _ _ hxh8
       have HXH8 := Lib.hid hxh8
       have HB8 := Lib.hid hb8
       have HO8 := Lib.hid hown8'
       clear hown8 hown8' hgrow8 hb8 hxh8)
    have hext : ExtU 35 w8 (w8.setCell ⟨W.heap.size, 1, none⟩ (.slice (some ⟨go, 0, none⟩) ln co)) := ExtU.set HXH8.out _
    have hown9 : (w8.setCell ⟨W.heap.size, 1, none⟩ (.slice (some ⟨go, 0, none⟩) ln co)).ownsRow w7.heap.size 3 1 (.slice (some ⟨go, 0, none⟩) ln co) ln (flatE int1 ll) := ownsRow_setCell_below HO8.out hW7 _
    have HBW9 := Lib.hid ((below_step HW7.out HB8.out).setCell (p := ⟨W.heap.size, 1, none⟩) (Nat.le_refl _) (.slice (some ⟨go, 0, none⟩) ln co))
    have HXH9 : Hid ((w8.setCell ⟨W.heap.size, 1, none⟩ (.slice (some ⟨go, 0, none⟩) ln co)).heap[W.heap.size]? = some (.cells #[.int .i64 op, .slice (some ⟨go, 0, none⟩) ln co, .int .i64 port, .int .i64 backup, .slice R rn rc, .bool pipe] 35 (0, 0))) := by
      refine Lib.hid ?_
      rw [heap_setCell_same _ _ _ _ _ _ HXH8.out]; rfl
    have HXP9 := Lib.hid (hext _ _ _ _ ((HB8.out.block _ (Array.getElem?_eq_some_iff.1 HXP7.out).1).trans HXP7.out) (by decide))
    have HOX9 := Lib.hid (own_extU (own_below HOX7.out HB8.out) (by decide) hext)
    have hp9 := PoolIs.extU (HP7.out.mono HB8.out) (by decide) (by decide) hext
    have hs78 := HB8.out.size
    have hm4 := HM7.out.size
    have hB9 : w2.heap.size ≤ (w8.setCell ⟨W.heap.size, 1, none⟩ (.slice (some ⟨go, 0, none⟩) ln co)).heap.size := by simp; omega
    have HM9 : Hid (Mut w2.heap.size w7 (w8.setCell ⟨W.heap.size, 1, none⟩ (.slice (some ⟨go, 0, none⟩) ln co)) → True) := Lib.hid fun _ => trivial
    have HAH := Lib.hid (addHop_any op port backup (some ⟨go, 0, none⟩) R ln co rn rc pipe ll rl (Rd.of_own' int1_len (by decide) hown9) (HLR.out.2.below HBW9.out) (by omega) (by omega) hp9 (by omega) hB9)
    have HO9 := Lib.hid hown9
    have hg9 : go < (w8.setCell ⟨W.heap.size, 1, none⟩ (.slice (some ⟨go, 0, none⟩) ln co)).heap.size := by simpa using hgo8
    clear hext hown9 hp9 HM9 y0 y1 y2 y3 y4 y5 fy
    refine (HAH.out).mono ?_
    clear HAH
    generalize w8.setCell ⟨W.heap.size, 1, none⟩ (.slice (some ⟨go, 0, none⟩) ln co) = w9 at *
    rintro e w10 ⟨rfl, ⟨v10, vl, vr, hp10, ol, or⟩, hm10⟩
    obtain ⟨L', lc', rfl, -, -⟩ := Rd.of_own int1_len (by decide) ol
    obtain ⟨R', rc', rfl, -, -⟩ := Rd.of_own int1_len (by decide) or
    have hu60 : used ts ≤ 60 := Nat.le_trans List.countP_le_length (by omega)
    have hf : ¬ (used ts : Int) = 100 := by omega
    unfold addId addE
    rw [if_neg hf, if_neg hf]
    have HP10 : Hid (PoolAt w10 w2.heap.size w2.heap.size 100 v10 (put ts (slot ts) ((Form.hop op L' ln lc' port backup R' rn rc' pipe).val, 1))) := by
      unfold addTs at hp10
      rw [if_neg hf] at hp10
      exact hp10
    have HOL := Lib.hid ol; have HOR := Lib.hid or
    have HO10 := Lib.hid (own_mut HO9.out (by decide) (by decide) hm10)
    have HXH10 := Lib.hid (hm10.box HXH9.out (by decide) (by decide))
    have HXP10 := Lib.hid (hm10.box HXP9.out (by decide) (by decide))
    have HOX10 := Lib.hid (own_mut HOX9.out (by decide) (by decide) hm10)
    have HBW10 := Lib.hid (HBW9.out.trans ((hm10.lt hB9).mono HB2.out.size))
    have hlt10 := hm10.size
    have HSL := Lib.hid (slot_le ts)
    have HUP := Lib.hid (used_put ts)
    obtain ⟨y0, y1, y2, y3, y4, y5⟩ := six_box HXH10.out
    have o0 : w10.cell? ⟨go, 0, none⟩ = some (.int .i64 x0) := by
      rw [HO10.out.cellAt 0 (by omega)]
      have := flatE_at int1_len HX0.out (show 0 < 1 by decide)
      simpa [int1] using this
    have hl0 : ¬ (ln : Int) ≤ 0 := by omega
    have hl0' : (0 : Int) < ln := by omega
    have hl0'' : 0 < ln := by omega
    clear hp10 hm10 ol or HXH9 HXP9 HOX9 HB8 HXH8 HO8 hf
    generalize slot ts = s at *
    go_wp2
    obtain ⟨q, hq, hq8⟩ : ∃ q : Nat, more % 9 = (q : Int) ∧ q ≤ 8 := ⟨(more % 9).toNat, by omega, by omega⟩
    rw [hq]
    obtain ⟨hv, hhv⟩ : ∃ hv, hv = (Form.hop op L' ln lc' port backup R' rn rc' pipe).val := ⟨_, rfl⟩
    rw [← hhv] at HP10
    have HHV := Lib.hid hhv
    clear hhv hq y0 y1 y2 y3 y4 y5 o0
    go_loopw [17] (fun u wx => ∃ k : Nat, k ≤ q ∧ u = .int .i64 k ∧ (∃ vv, PoolAt wx w2.heap.size w2.heap.size 100 vv (put ts s (hv, 1 + (k : Int)))) ∧ Mut w2.heap.size w10 wx) (fun u _ => q - (intOf u).toNat)
    case atStart => exact ⟨0, Nat.zero_le _, rfl, ⟨v10, by simpa using HP10.out⟩, Mut.refl _ _⟩
    case round =>
      obtain ⟨k, hk, rfl, ⟨vv, hp⟩, hmk⟩ := hrel
      by_cases hlt : k < q
      · have hkq : (k : Int) < q := by omega
        have h := ref_some hp (put_same ts (hv, 1 + (k : Int)) HSL.out) (by show 1 + (k : Int) ≠ 0; omega) (by show 1 + (k : Int) ≤ 99; omega)
        rw [put_put ts _ _ HSL.out] at h
        have HREF := Lib.hid h
        have HMK := Lib.hid hmk
        clear hp hmk h
        go_wp2_with fail
        refine (HREF.out).mono ?_
        rintro e w11 ⟨rfl, hp, hm11⟩
        have HP11 := Lib.hid hp
        have HM11 := Lib.hid (HMK.out.trans hm11)
        clear hp hm11
        go_wp2
        go_roundw
        case rel => exact ⟨k + 1, by omega, by go_num, ⟨vv, by have := HP11.out; simpa [Int.add_assoc] using this⟩, HM11.out⟩
        case measure => simp [intOf]; omega
      · have hkq : k = q := by omega
        subst hkq
        have HP11 := Lib.hid hp
        have HM11 := Lib.hid hmk
        have hown := own_mut HO10.out (by decide) (by decide) hmk
        obtain ⟨cur, hcur⟩ := own_blk hown
        have o0 : wr.cell? ⟨go, 0, none⟩ = some (.int .i64 x0) := by
          rw [hown.cellAt 0 (by omega)]
          have := flatE_at int1_len HX0.out (show 0 < 1 by decide)
          simpa [int1] using this
        have of0 : wr.frozen? ⟨go, 0, none⟩ = false := hown.frozenAt _
        have HEXT := Lib.hid (fun z => ExtU.set (j := 0) hcur z)
        have HOLr := Lib.hid (own_mut HOL.out (by decide) (by decide) hmk)
        have HORr := Lib.hid (own_mut HOR.out (by decide) (by decide) hmk)
        have HXPr := Lib.hid (hmk.box HXP10.out (by decide) (by decide))
        have HOXr := Lib.hid (own_mut HOX10.out (by decide) (by decide) hmk)
        have hlow10 : w2.heap.size ≤ w10.heap.size := by omega
        have HBWr := Lib.hid (HBW10.out.trans ((hmk.lt hlow10).mono HB2.out.size))
        have hWgo : W.heap.size ≤ go := by omega
        have hszr := hmk.size
        clear hp hmk hown hcur cur
        go_wp2_with fail
        clear o0 of0
        generalize hz : wr.setCell ⟨go, 0, none⟩ _ = w12
        have hext : ExtU 3 wr w12 := by rw [← hz]; exact HEXT.out _
        have hol12 : w12.ownsRow w9.heap.size 3 1 (.slice L' ln lc') ln (flatE int1 ll) := by rw [← hz]; exact ownsRow_setCell_below HOLr.out (by simpa using hg9) _
        have hor12 : w12.ownsRow w9.heap.size 3 1 (.slice R' rn rc') rn (flatE int1 rl) := by rw [← hz]; exact ownsRow_setCell_below HORr.out (by simpa using hg9) _
        have HBW12 : Hid (Below W.heap.size W w12) := by rw [← hz]; exact HBWr.out.setCell hWgo _
        have hsz12 : w12.heap.size = wr.heap.size := by rw [← hz]; simp
        clear hz HEXT HOLr HORr HBWr
        have HP12 := Lib.hid (PoolIs.extU HP11.out (by decide) (by decide) hext)
        have HXP12 := Lib.hid (hext _ _ _ _ HXPr.out (by decide))
        have HOX12 := Lib.hid (own_extU HOXr.out (by decide) hext)
        have HOL12 := Lib.hid hol12
        have HOR12 := Lib.hid hor12
        have HH := Lib.hid (hop_at s op port backup L' R' ln lc' rn rc' pipe ll rl (Rd.of_own' int1_len (by decide) hol12) (Rd.of_own' int1_len (by decide) hor12) (by omega) (by omega) ((valAt_of (put_same ts (hv, 1 + (k : Int)) HSL.out) (by show 1 + (k : Int) ≠ 0; omega)).trans HHV.out) HP12.out)
        clear hext hol12 hor12 HXPr HOXr
        refine (HH.out).mono ?_
        rintro e w13 ⟨vl2, vr2, rfl, ol2, or2, hb13⟩
        obtain ⟨R2, rc2, rfl, -, -⟩ := Rd.of_own int1_len (by decide) or2
        obtain ⟨-, hz0⟩ | ⟨g2, lc2, rfl, hg2, hg2', -, -⟩ := own_form ol2
        · omega
        have c0 : w13.cell? ⟨g2, 0, none⟩ = some (.int .i64 x0) := by
          rw [ol2.cellAt 0 (by omega)]
          have := flatE_at int1_len HX0.out (show 0 < 1 by decide)
          simpa [int1] using this
        have cf0 : w13.frozen? ⟨g2, 0, none⟩ = false := ol2.frozenAt _
        have k1 : (x0 != x0) = false := by simp
        have HB13 := Lib.hid hb13
        have HO13 := Lib.hid ol2
        have hs13 := hb13.size
        clear ol2 or2 hb13 HH
        go_wp2_with fail
        obtain ⟨cur, hcur⟩ := own_blk HO13.out
        have HBX : Hid (∀ z o, ExtU 3 w13 (w13.setCell ⟨g2, 0, none⟩ z) ∧ Below (w13.setCell ⟨g2, 0, none⟩ z).heap.size (w13.setCell ⟨g2, 0, none⟩ z) ((w13.setCell ⟨g2, 0, none⟩ z).alloc o)) := fun z o => ⟨ExtU.set hcur z, by go_grown⟩
        clear hcur cur c0 cf0
        generalize hz : (w13.setCell ⟨g2, 0, none⟩ _).alloc _ = w14
        have hL13 := own_below HOL12.out HB13.out
        have hR13 := own_below HOR12.out HB13.out
        have hnL : (Value.slice L' ln lc').ownBlock ≠ some g2 := fun e => by have := (HOL12.out.lt g2 e).2; omega
        have hnR : (Value.slice R' rn rc').ownBlock ≠ some g2 := fun e => by have := (HOR12.out.lt g2 e).2; omega
        have hp14 : PoolAt w14 w2.heap.size w2.heap.size 100 vv (put ts s (hv, 1 + (k : Int))) := by
          rw [← hz]; exact (PoolIs.extU (HP12.out.mono HB13.out) (by decide) (by decide) (HBX.out _ (.cells #[] 0)).1).mono (HBX.out _ _).2
        have hL14 : w14.ownsRow w9.heap.size 3 1 (.slice L' ln lc') ln (flatE int1 ll) := by rw [← hz]; exact own_below (ownsRow_setCell_other hL13 hnL _) (HBX.out _ _).2
        have hR14 : w14.ownsRow w9.heap.size 3 1 (.slice R' rn rc') rn (flatE int1 rl) := by rw [← hz]; exact own_below (ownsRow_setCell_other hR13 hnR _) (HBX.out _ _).2
        have hxp13 := (HB13.out.block _ (Array.getElem?_eq_some_iff.1 HXP12.out).1).trans HXP12.out
        have hxp14 : w14.heap[w4.heap.size]? = some (.cells #[.bool true, .int .i64 100, .slice A n c] 30 (0, 0)) := by
          rw [← hz]
          have h1 := (HBX.out (.int .i64 (wrap64 (x0 + 2))) (.cells #[] 0)).1 _ _ _ _ hxp13 (by decide)
          rw [heap_alloc_old _ _ (Array.getElem?_eq_some_iff.1 h1).1]
          exact h1
        have hox14 : w14.ownsRow w2.heap.size 37 10 (.slice A n c) n (flatE xv xs) := by
          rw [← hz]; exact own_below (own_extU (own_below HOX12.out HB13.out) (by decide) (HBX.out _ (.cells #[] 0)).1) (HBX.out _ _).2
        have hbw14 : Below W.heap.size W w14 := by
          rw [← hz]
          have h1 : Below W.heap.size W w13 := below_step HBW12.out HB13.out
          exact below_step (h1.setCell (p := ⟨g2, 0, none⟩) (by show _ ≤ g2; omega) _) (HBX.out _ _).2
        clear hz HBX hL13 hR13 hnL hnR hxp13
        have HP14 := Lib.hid hp14
        have HXP14 := Lib.hid hxp14
        have HOX14 := Lib.hid hox14
        have HBW14 := Lib.hid hbw14
        have HH := Lib.hid (hop_at s op port backup L' R' ln lc' rn rc' pipe ll rl (Rd.of_own' int1_len (by decide) hL14) (Rd.of_own' int1_len (by decide) hR14) (by omega) (by omega) ((valAt_of (put_same ts (hv, 1 + (k : Int)) HSL.out) (by show 1 + (k : Int) ≠ 0; omega)).trans HHV.out) hp14)
        clear hp14 hxp14 hox14 hbw14 hL14 hR14
        refine (HH.out).mono ?_
        rintro e w15 ⟨vl3, vr3, rfl, ol3, or3, hb15⟩
        obtain ⟨R3, rc3, rfl, -, -⟩ := Rd.of_own int1_len (by decide) or3
        obtain ⟨-, hz0⟩ | ⟨g3, lc3, rfl, hg3, hg3', -, -⟩ := own_form ol3
        · omega
        have c0 : w15.cell? ⟨g3, 0, none⟩ = some (.int .i64 x0) := by
          rw [ol3.cellAt 0 (by omega)]
          have := flatE_at int1_len HX0.out (show 0 < 1 by decide)
          simpa [int1] using this
        have HC0 := Lib.hid c0
        have HB15 := Lib.hid hb15
        have hal15 : Below w15.heap.size w15 (w15.alloc (.cells #[.int .i64 op, .slice (some ⟨g3, 0, none⟩) ln lc3, .int .i64 port, .int .i64 backup, .slice R3 rn rc3, .bool pipe] 35)) := by go_grown
        have HYB := Lib.hid (heap_alloc_new w15 (.cells #[.int .i64 op, .slice (some ⟨g3, 0, none⟩) ln lc3, .int .i64 port, .int .i64 backup, .slice R3 rn rc3, .bool pipe] 35))
        have HAL15 := Lib.hid hal15
        clear ol3 or3 hb15 hal15 HH c0
        go_wp2_with fail
        generalize w15.alloc _ = w16 at *
        have HB16 := Lib.hid (below_step HB15.out HAL15.out)
        have HXP16 := Lib.hid ((HB16.out.block _ (Array.getElem?_eq_some_iff.1 HXP14.out).1).trans HXP14.out)
        have HC16' := Lib.hid ((HAL15.out.cell (World.block_lt_of_cell? _ _ HC0.out)).trans HC0.out)
        generalize w15.heap.size = gy at *
        have HC : Hid (∀ w', Below w16.heap.size w16 w' → (Below w16.heap.size w16 w' ∧ w'.cell? ⟨gy, 1, none⟩ = some (.slice (some ⟨g3, 0, none⟩) ln lc3) ∧ w'.cell? ⟨g3, 0, none⟩ = some (.int .i64 x0) ∧ w'.cell? ⟨w4.heap.size, 0, none⟩ = some (.bool true) ∧ w'.cell? ⟨w4.heap.size, 1, none⟩ = some (.int .i64 100) ∧ w'.cell? ⟨w4.heap.size, 2, none⟩ = some (.slice A n c))) := fun w' h => by
          obtain ⟨-, z1, -⟩ := six_box ((h.block _ (Array.getElem?_eq_some_iff.1 HYB.out).1).trans HYB.out)
          obtain ⟨p0, p1, p2, -⟩ := three_box ((h.block _ (Array.getElem?_eq_some_iff.1 HXP16.out).1).trans HXP16.out)
          exact ⟨h, z1, (h.cell (World.block_lt_of_cell? _ _ HC16'.out)).trans HC16'.out, p0, p1, p2⟩
        have HP16 := Lib.hid (HP14.out.mono HB16.out)
        have hus : usesAt (put ts s (hv, 1 + (k : Int))) s = (k : Int) + 1 := by
          rw [usesAt_of (put_same ts (hv, 1 + (k : Int)) HSL.out) (by show 1 + (k : Int) ≠ 0; omega)]; show 1 + (k : Int) = _; omega
        have hus2 : ((used (put ts s (hv, 1 + (k : Int))) : Nat) : Int) = (used ts : Int) + 1 := by
          have := HUP.out (hv, 1 + (k : Int))
          rw [if_pos (by show 1 + (k : Int) ≠ 0; omega)] at this
          omega
        have HRD16 := Lib.hid ((Rd.of_own' xv_len (by decide) HOX14.out).below HB16.out)
        have HU0 := Lib.hid (fun wy (h : Below w16.heap.size w16 wy) => uses_any (s : Int) (HP16.out.mono h))
        have HL0 := Lib.hid (fun wy (h : Below w16.heap.size w16 wy) => len_any (show PoolAt wy w2.heap.size w2.heap.size 100 vv (put ts s (hv, 1 + (k : Int))) from HP16.out.mono h))
        have HR0 := Lib.hid (fun wy (h : Below w16.heap.size w16 wy) => rlen_any true 100 A n c xs wy (HRD16.out.below h) (by omega))
        rw [hus] at HU0
        rw [hus2] at HL0
        rw [HUE.out] at HR0
        clear hus hus2
        generalize hu : used ts = u at *
        have HU : Hid (∀ wy, Below w16.heap.size w16 wy → Calls Try.prog 16 #[.pointer (some ⟨w2.heap.size, 0, none⟩), .int .i64 s] wy fun e w' => e = .returned (.int .i64 ((k : Int) + 1)) ∧ (Below w16.heap.size w16 w' ∧ w'.cell? ⟨gy, 1, none⟩ = some (.slice (some ⟨g3, 0, none⟩) ln lc3) ∧ w'.cell? ⟨g3, 0, none⟩ = some (.int .i64 x0) ∧ w'.cell? ⟨w4.heap.size, 0, none⟩ = some (.bool true) ∧ w'.cell? ⟨w4.heap.size, 1, none⟩ = some (.int .i64 100) ∧ w'.cell? ⟨w4.heap.size, 2, none⟩ = some (.slice A n c))) := fun wy h =>
          (HU0.out wy h).mono fun e w' ⟨he, hw⟩ => ⟨he, by rw [hw]; exact HC.out _ h⟩
        have HLN : Hid (∀ wy, Below w16.heap.size w16 wy → Calls Try.prog 21 #[.pointer (some ⟨w2.heap.size, 0, none⟩)] wy fun e w' => e = .returned (.int .i64 ((u : Int) + 1)) ∧ (Below w16.heap.size w16 w' ∧ w'.cell? ⟨gy, 1, none⟩ = some (.slice (some ⟨g3, 0, none⟩) ln lc3) ∧ w'.cell? ⟨g3, 0, none⟩ = some (.int .i64 x0) ∧ w'.cell? ⟨w4.heap.size, 0, none⟩ = some (.bool true) ∧ w'.cell? ⟨w4.heap.size, 1, none⟩ = some (.int .i64 100) ∧ w'.cell? ⟨w4.heap.size, 2, none⟩ = some (.slice A n c))) := fun wy h =>
          (HL0.out wy h).mono fun e w' ⟨he, hw⟩ => ⟨he, by rw [hw]; exact HC.out _ h⟩
        have HRL : Hid (∀ wy, Below w16.heap.size w16 wy → Calls Try.prog 22 #[.agg #[.bool true, .int .i64 100, .slice A n c]] wy fun e w' => e = .returned (.int .i64 u) ∧ (Below w16.heap.size w16 w' ∧ w'.cell? ⟨gy, 1, none⟩ = some (.slice (some ⟨g3, 0, none⟩) ln lc3) ∧ w'.cell? ⟨g3, 0, none⟩ = some (.int .i64 x0) ∧ w'.cell? ⟨w4.heap.size, 0, none⟩ = some (.bool true) ∧ w'.cell? ⟨w4.heap.size, 1, none⟩ = some (.int .i64 100) ∧ w'.cell? ⟨w4.heap.size, 2, none⟩ = some (.slice A n c))) := fun wy h =>
          (HR0.out wy h).mono fun e w' ⟨he, hb⟩ => ⟨he, HC.out _ (below_step h hb)⟩
        have e2 : ((k : Int) + 1 != (k : Int) + 1) = false := by simp
        have e3 : ((u : Int) + 1 != (u : Int) + 1) = false := by simp
        have e4 : IntKind.i64.wrap ((k : Int) + 1) = (k : Int) + 1 := IntWalk.i64_in _ (by omega)
        have e5 : IntKind.i64.wrap ((u : Int) + 1) = (u : Int) + 1 := IntWalk.i64_in _ (by omega)
        obtain ⟨-, z1, z2, p0, p1, p2⟩ := HC.out w16 (Below.refl _ _)
        clear HU0 HL0 HR0
        go_region_held3 (fun w' => Below w16.heap.size w16 w' ∧ w'.cell? ⟨gy, 1, none⟩ = some (.slice (some ⟨g3, 0, none⟩) ln lc3) ∧ w'.cell? ⟨g3, 0, none⟩ = some (.int .i64 x0) ∧ w'.cell? ⟨w4.heap.size, 0, none⟩ = some (.bool true) ∧ w'.cell? ⟨w4.heap.size, 1, none⟩ = some (.int .i64 100) ∧ w'.cell? ⟨w4.heap.size, 2, none⟩ = some (.slice A n c))
          (first | assumption | exact ⟨by assumption, by assumption, by assumption, by assumption, by assumption, by assumption⟩ | exact HC.out _ (Below.refl _ _).drew)
          (first | (go_at_call 16; (with_reducible refine (HU.out _ ?_).mono ?_); (exact And.left (by assumption)); rintro e w17 ⟨rfl, hbA, z3, z4, z5, z6, z7⟩) | (go_at_call 21; (with_reducible refine (HLN.out _ ?_).mono ?_); (exact And.left (by assumption)); rintro e w17 ⟨rfl, hbA, z3, z4, z5, z6, z7⟩) | (go_at_call 22; (with_reducible refine (HRL.out _ ?_).mono ?_); (exact And.left (by assumption)); rintro e w17 ⟨rfl, hbA, z3, z4, z5, z6, z7⟩))
        go_wp2_with fail
        have HBW17 := Lib.hid (below_step HBW14.out (below_step HB16.out hbA))
        have HP17 := Lib.hid (HP16.out.mono hbA)
        have HXP17 := Lib.hid ((hbA.block _ (Array.getElem?_eq_some_iff.1 HXP16.out).1).trans HXP16.out)
        have HOX17 := Lib.hid (own_below HOX14.out (below_step HB16.out hbA))
        have hs17 : w2.heap.size ≤ w17.heap.size := by
          have h1 := HB13.out.size; have h2 := HB16.out.size; have h3 := hbA.size; have h4 := Array.getElem?_eq_some_iff.1 HXP14.out
          have h5 := HP17.out.blk
          have h6 := (Array.getElem?_eq_some_iff.1 h5).1
          omega
        clear HU HLN HRL HC e2 e3 e4 e5 z1 z2 p0 p1 p2 z3 z4 z5 z6 z7 hbA HB16 HP16 HRD16 HB15 HAL15 HYB HC0 HC16' HB13 HO13
        clear HP12 HXP12 HOX12 HOL12 HOR12 HBW12 HP11 HM11 HXP14 HOX14 HP14 HBW14 HXP16
        obtain ⟨wq, rfl⟩ : ∃ wq : World, wq = wr := ⟨_, rfl⟩
        go_loopw [23] (fun u' wy => ∃ j : Nat, j ≤ k + 1 ∧ u' = .int .i64 j ∧ (∃ vv, PoolAt wy w2.heap.size w2.heap.size 100 vv (put ts s (if j ≤ k then (hv, (k : Int) + 1 - j) else (.nilIface, 0)))) ∧ Mut w2.heap.size w17 wy) (fun u' _ => k + 1 - (intOf u').toNat)
        case atStart => exact ⟨0, Nat.zero_le _, rfl, ⟨vv, by rw [if_pos (Nat.zero_le _), show (k : Int) + 1 - ((0 : Nat) : Int) = 1 + k by omega]; exact HP17.out⟩, Mut.refl _ _⟩
        case round =>
          obtain ⟨j, hj, rfl, ⟨v2, hp⟩, hmj⟩ := hrel
          by_cases hjk : j < k
          · rw [if_pos (by omega)] at hp
            have h := unref_more hp (put_same ts (hv, (k : Int) + 1 - j) HSL.out) (by show 1 < (k : Int) + 1 - j; omega)
            rw [put_put ts _ _ HSL.out] at h
            have HUN := Lib.hid h
            have HMJ := Lib.hid hmj
            have hle : (j : Int) ≤ k := by omega
            have hne : ((j : Int) == (k : Int)) = false := by simp; omega
            clear hp hmj h
            go_wp2_with fail
            refine (HUN.out).mono ?_
            rintro e w18 ⟨rfl, hp, hm18⟩
            have HP18 := Lib.hid hp
            have HM18 := Lib.hid (HMJ.out.trans hm18)
            clear hp hm18
            go_wp2
            go_roundw
            case rel => exact ⟨j + 1, by omega, by go_num, ⟨v2, by rw [if_pos (by omega), show (k : Int) + 1 - ((j + 1 : Nat) : Int) = (k : Int) + 1 - j - 1 by omega]; exact HP18.out⟩, HM18.out⟩
            case measure => simp [intOf]; omega
          · by_cases hjk' : j = k
            · subst hjk'
              rw [if_pos (by omega)] at hp
              have h := unref_last hp (put_same ts (hv, (j : Int) + 1 - j) HSL.out) (by show (j : Int) + 1 - j = 1; omega)
              rw [put_put ts _ _ HSL.out] at h
              have HUN := Lib.hid h
              have HMJ := Lib.hid hmj
              clear hp hmj h
              go_wp2_with fail
              refine (HUN.out).mono ?_
              rintro e w18 ⟨rfl, hp, hm18⟩
              have HP18 := Lib.hid hp
              have HM18 := Lib.hid (HMJ.out.trans hm18)
              clear hp hm18
              go_wp2
              go_roundw
              case rel => exact ⟨j + 1, by omega, by go_num, ⟨v2, by rw [if_neg (by omega)]; exact HP18.out⟩, HM18.out⟩
              case measure => simp [intOf]
            · obtain rfl : j = k + 1 := by omega
              rw [if_neg (by omega)] at hp
              have hlk : look (put ts s (.nilIface, (0 : Int))) s = none := look_zero (put_same ts _ HSL.out) rfl
              have hus : ((used (put ts s (.nilIface, (0 : Int))) : Nat) : Int) = u := by rw [HUP.out]; simp
              have HXP18 := Lib.hid (hmj.box HXP17.out (by decide) (by decide))
              have HRD18 := Lib.hid (Rd.of_own' xv_len (by decide) (own_mut HOX17.out (by decide) (by decide) hmj))
              have HBW18 := Lib.hid (HBW17.out.trans ((hmj.lt hs17).mono HB2.out.size))
              have HHN := Lib.hid (hop_not s .none (by unfold valAt; rw [hlk]; rfl) (by decide) hp)
              have HUN := Lib.hid (fun wy (h : Below wr.heap.size wr wy) => unref_none (hp.mono h) hlk)
              have HRN := Lib.hid (fun wy (h : Below wr.heap.size wr wy) => ref_none (hp.mono h) hlk)
              have HL0 := Lib.hid (fun wy (h : Below wr.heap.size wr wy) => len_any (show PoolAt wy w2.heap.size w2.heap.size 100 v2 (put ts s (.nilIface, (0 : Int))) from hp.mono h))
              have HR0 := Lib.hid (fun wy (h : Below wr.heap.size wr wy) => rlen_any true 100 A n c xs wy (HRD18.out.below h) (by omega))
              rw [hus] at HL0
              rw [HUE.out] at HR0
              have hgt : ¬ (k : Int) + 1 ≤ k := by omega
              clear hp hmj hus hlk hjk hjk' hj
              go_wp2_with fail
              refine (HHN.out).mono ?_
              rintro e w18 ⟨vl4, vr4, rfl, ol4, or4, hb18⟩
              obtain ⟨L4, lc4, rfl, -, -⟩ := Rd.of_own int1_len (by decide) (l := []) ol4
              obtain ⟨R4, rc4, rfl, -, -⟩ := Rd.of_own int1_len (by decide) (l := []) or4
              have hal18 : Below w18.heap.size w18 (w18.alloc (.cells #[.int .i64 0, .slice L4 0 lc4, .int .i64 0, .int .i64 0, .slice R4 0 rc4, .bool false] 35)) := by go_grown
              have HB18 := Lib.hid (below_step hb18 hal18)
              clear ol4 or4 hb18 hal18 HHN
              go_wp2_with fail
              refine (HUN.out _ HB18.out).mono ?_
              rintro e w19 ⟨rfl, rfl⟩
              clear HUN
              go_wp2_with fail
              generalize w18.alloc _ = w20 at *
              have HXP20 := Lib.hid ((HB18.out.block _ (Array.getElem?_eq_some_iff.1 HXP18.out).1).trans HXP18.out)
              have HC : Hid (∀ w', Below w20.heap.size w20 w' → (Below w20.heap.size w20 w' ∧ w'.cell? ⟨w4.heap.size, 0, none⟩ = some (.bool true) ∧ w'.cell? ⟨w4.heap.size, 1, none⟩ = some (.int .i64 100) ∧ w'.cell? ⟨w4.heap.size, 2, none⟩ = some (.slice A n c))) := Lib.hid fun w' h => by
                obtain ⟨p0, p1, p2, -⟩ := three_box ((h.block _ (Array.getElem?_eq_some_iff.1 HXP20.out).1).trans HXP20.out)
                exact ⟨h, p0, p1, p2⟩
              have HRF : Hid (∀ wy, Below w20.heap.size w20 wy → Calls Try.prog 20 #[.pointer (some ⟨w2.heap.size, 0, none⟩), .int .i64 s] wy fun e w' => e = .returned (.int .i64 31) ∧ (Below w20.heap.size w20 w' ∧ w'.cell? ⟨w4.heap.size, 0, none⟩ = some (.bool true) ∧ w'.cell? ⟨w4.heap.size, 1, none⟩ = some (.int .i64 100) ∧ w'.cell? ⟨w4.heap.size, 2, none⟩ = some (.slice A n c))) := Lib.hid fun wy h =>
                (HRN.out wy (below_step HB18.out h)).mono fun e w' ⟨he, hw⟩ => ⟨he, by rw [hw]; exact HC.out _ h⟩
              have HLN : Hid (∀ wy, Below w20.heap.size w20 wy → Calls Try.prog 21 #[.pointer (some ⟨w2.heap.size, 0, none⟩)] wy fun e w' => e = .returned (.int .i64 u) ∧ (Below w20.heap.size w20 w' ∧ w'.cell? ⟨w4.heap.size, 0, none⟩ = some (.bool true) ∧ w'.cell? ⟨w4.heap.size, 1, none⟩ = some (.int .i64 100) ∧ w'.cell? ⟨w4.heap.size, 2, none⟩ = some (.slice A n c))) := Lib.hid fun wy h =>
                (HL0.out wy (below_step HB18.out h)).mono fun e w' ⟨he, hw⟩ => ⟨he, by rw [hw]; exact HC.out _ h⟩
              have HRL : Hid (∀ wy, Below w20.heap.size w20 wy → Calls Try.prog 22 #[.agg #[.bool true, .int .i64 100, .slice A n c]] wy fun e w' => e = .returned (.int .i64 u) ∧ (Below w20.heap.size w20 w' ∧ w'.cell? ⟨w4.heap.size, 0, none⟩ = some (.bool true) ∧ w'.cell? ⟨w4.heap.size, 1, none⟩ = some (.int .i64 100) ∧ w'.cell? ⟨w4.heap.size, 2, none⟩ = some (.slice A n c))) := Lib.hid fun wy h =>
                (HR0.out wy (below_step HB18.out h)).mono fun e w' ⟨he, hb⟩ => ⟨he, HC.out _ (below_step h hb)⟩
              have HFIN := Lib.hid (fun wy (h : Below w20.heap.size w20 wy) => below_step HBW18.out (below_step HB18.out h))
              obtain ⟨-, p0, p1, p2⟩ := HC.out w20 (Below.refl _ _)
              clear HRN HL0 HR0
              go_region_held3 (fun w' => Below w20.heap.size w20 w' ∧ w'.cell? ⟨w4.heap.size, 0, none⟩ = some (.bool true) ∧ w'.cell? ⟨w4.heap.size, 1, none⟩ = some (.int .i64 100) ∧ w'.cell? ⟨w4.heap.size, 2, none⟩ = some (.slice A n c))
                (first | assumption | exact ⟨by assumption, by assumption, by assumption, by assumption⟩ | exact HC.out _ (Below.refl _ _).drew)
                (first | (go_at_call 20; (with_reducible refine (HRF.out _ ?_).mono ?_); (exact And.left (by assumption)); rintro e w21 ⟨rfl, hbA, z5, z6, z7⟩) | (go_at_call 21; (with_reducible refine (HLN.out _ ?_).mono ?_); (exact And.left (by assumption)); rintro e w21 ⟨rfl, hbA, z5, z6, z7⟩) | (go_at_call 22; (with_reducible refine (HRL.out _ ?_).mono ?_); (exact And.left (by assumption)); rintro e w21 ⟨rfl, hbA, z5, z6, z7⟩))
              go_wp2
              go_ret
              exact ⟨rfl, HFIN.out _ hbA⟩
  · have hsm' : smallB script = false := by simpa using hsm
    rw [hsm']
    go_wp2
    go_ret
    exact ⟨rfl, HB2.out⟩

end Go.Proofs.Ytifadjakpllpfaa
