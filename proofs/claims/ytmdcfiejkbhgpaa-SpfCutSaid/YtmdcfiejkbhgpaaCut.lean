/-
  The law SpfCut, walked. (Printed by genlaws.py.)
-/
import Derived.Test.YtmdcfiejkbhgpaaCosts
namespace Go.Proofs.Ytmdcfiejkbhgpaa
open Go.RowKit

theorem cut_law {n : Int} {l : List Lk} {a b s t : Int} (hg : GOk n l) (hs : 0 ≤ s ∧ s < n) (ht : 0 ≤ t ∧ t < n) (h : (usesG n l s t a b || usesG n l s t b a) = false) : D (withoutG l a b) s t = D l s t := by
  have hsub : (withoutG l a b).Sublist l := List.filter_sublist
  have hgw := hg.fewer hsub
  rw [Bool.or_eq_false_iff] at h
  by_cases h0 : 0 ≤ D l s t
  · refine D_same hg.pos (fun x hx => hsub.subset hx) h0 fun x hx hnx hu => ?_
    have hok := hg.ok x hx
    have key : ∀ p q, x.f = p → x.t = q → usesG n l s t p q = true := by
      intro p q hp hq
      subst hp hq
      unfold usesG
      rw [rightG_in hg hs, rightG_in hg ht, rightG_in hg ⟨hok.1, hok.2.1⟩, rightG_in hg ⟨hok.2.2.1, hok.2.2.2.1⟩, (usesV_iff hg).2 ⟨x.c, hx, hu⟩]
      rfl
    have hk : keepB a b x = false := by
      cases e : keepB a b x with
      | false => rfl
      | true => exact absurd (List.mem_filter.2 ⟨hx, e⟩) hnx
    unfold keepB at hk
    simp only [Bool.and_eq_false_iff, Bool.not_eq_false', Bool.and_eq_true, beq_iff_eq] at hk
    rcases hk with ⟨h1, h2⟩ | ⟨h1, h2⟩
    · rw [key a b h1 h2] at h; exact absurd h.1 (by simp)
    · rw [key b a h1 h2] at h; exact absurd h.2 (by simp)
  · have h1 := (D_no hg.pos (s := s) (v := t) (by omega)).1
    by_cases h2 : 0 ≤ D (withoutG l a b) s t
    · have := D_fewer hg.pos (fun x hx => hsub.subset hx) h2
      omega
    · have := (D_no hgw.pos (s := s) (v := t) (by omega)).1
      omega
/-- what stays behind the two rows of costs -/
def Cut8 (W : World) (n : Int) (A : Option Addr) (m c : Nat) (s : Int) (T : Nat) (a b : Int) (w' : World) (bx x1 x2 : Nat) (dt et : Int) : Prop :=
  BoxG w' bx n A m c s T a b ∧ w'.cell? ⟨x1, T, none⟩ = some (.int .i64 dt) ∧ w'.cell? ⟨x2, T, none⟩ = some (.int .i64 et) ∧ Below W.heap.size W w'

set_option maxRecDepth 100000 in
set_option maxHeartbeats 8000000 in
theorem cut_any {W : World} {A : Option Addr} {m c : Nat} {l : List Lk} (hr : Rd lkc 3 W A m l) (n s t a b : Int) :
    Calls Try.prog 6 #[.agg #[.int .i64 n, .slice A m c, .int .i64 s, .int .i64 t, .int .i64 a, .int .i64 b]] W fun e w' => e = .returned (.bool true) ∧ Below W.heap.size W w' := by
  have HL := Lib.hid hr
  have HM := Lib.hid hr.1
  have HA := Lib.hid (awake_any (W.alloc (.cells (gcs n A m c s t a b) 24)))
  clear hr
  go_enter Try.func6, Try.ntmps6
  go_wp2_with fail
  refine (HA.out).mono ?_
  rintro e w1 ⟨rfl, hb1⟩
  have hal := below_al1 W (.cells (gcs n A m c s t a b) 24)
  have HBG1 := Lib.hid (show BoxG w1 W.heap.size n A m c s t a b from BoxG.below (heap_alloc_new _ _) hb1)
  have HW1 := Lib.hid (hal.trans (hb1.mono hal.size))
  have HL1 := Lib.hid (HL.out.below HW1.out)
  generalize hbx : W.heap.size = bx at HBG1 ⊢
  have HBX := Lib.hid hbx
  clear hbx hb1 hal HL HA
  obtain ⟨p0, p1, p2, p3, p4, p5, p6⟩ := HBG1.out.cells
  by_cases hm : m ≤ 30
  · have hm2 : decide ((m : Int) > 30) = false := decide_eq_false (by omega)
    have hm3 : m ≤ 1000 := by omega
    have HCK := Lib.hid (check_any (c := c) HL1.out n hm3)
    have HG := Lib.hid (fun h : chkG n l = 0 => (chkG_ok (n := n) (l := l)).1 h)
    generalize chkG n l = ck at HCK HG
    go_wp2_with fail
    refine (HCK.out).mono ?_
    rintro e w2 ⟨rfl, hb2⟩
    have HBG2 := Lib.hid (HBG1.out.below hb2)
    have HW2 := Lib.hid (HW1.out.trans (hb2.mono HW1.out.size))
    have HL2 := Lib.hid (HL1.out.below hb2)
    clear p0 p1 p2 p3 p4 p5 p6 HBG1 HW1 HL1 HCK hb2
    obtain ⟨p0, p1, p2, p3, p4, p5, p6⟩ := HBG2.out.cells
    by_cases hck : ¬ ck = 0
    · have hckb : (ck != 0) = true := by simpa using hck
      go_wp2_with fail
      go_ret
      exact ⟨rfl, by have := HBX.out; subst this; exact HW2.out⟩
    · have hckb : (ck != 0) = false := by simpa using hck
      by_cases hs0 : s < 0
      · have hs0b : (decide (s < 0)) = true := by simpa using hs0
        go_wp2_with fail
        go_ret
        exact ⟨rfl, by have := HBX.out; subst this; exact HW2.out⟩
      · have hs0b : (decide (s < 0)) = false := by simpa using hs0
        by_cases hs1 : s ≥ n
        · have hs1b : (decide (s ≥ n)) = true := by simpa using hs1
          go_wp2_with fail
          go_ret
          exact ⟨rfl, by have := HBX.out; subst this; exact HW2.out⟩
        · have hs1b : (decide (s ≥ n)) = false := by simpa using hs1
          by_cases ht0 : t < 0
          · have ht0b : (decide (t < 0)) = true := by simpa using ht0
            go_wp2_with fail
            go_ret
            exact ⟨rfl, by have := HBX.out; subst this; exact HW2.out⟩
          · have ht0b : (decide (t < 0)) = false := by simpa using ht0
            by_cases ht1 : t ≥ n
            · have ht1b : (decide (t ≥ n)) = true := by simpa using ht1
              go_wp2_with fail
              go_ret
              exact ⟨rfl, by have := HBX.out; subst this; exact HW2.out⟩
            · have ht1b : (decide (t ≥ n)) = false := by simpa using ht1
              have hg := HG.out (by simpa using hck)
              have HGK := Lib.hid hg
              have hn64 := hg.n64
              obtain ⟨N, hN⟩ : ∃ N : Nat, n = N := ⟨n.toNat, by omega⟩
              subst hN
              obtain ⟨S, rfl, hS1⟩ := nat_of_lt (n := (N : Int)) (v := s) (by omega) (by omega)
              obtain ⟨T, rfl, hT1⟩ := nat_of_lt (n := (N : Int)) (v := t) (by omega) (by omega)
              have hRS := rightG_in hg (x := (S : Int)) ⟨by omega, hS1⟩
              have hsub : (withoutG l a b).Sublist l := List.filter_sublist
              have hgw := hg.fewer hsub
              have hRW := rightG_in hgw (x := (S : Int)) ⟨by omega, hS1⟩
              have hdt := And.intro (D_ge hg.pos (S : Int) T) (D_top (l := l) hg (a := (S : Int)) (t := T) ⟨by omega, hS1⟩)
              have hdw := And.intro (D_ge hgw.pos (S : Int) T) (D_top (l := withoutG l a b) hgw (a := (S : Int)) (t := T) ⟨by omega, hS1⟩)
              have hfew := fun h => D_fewer hg.pos (fun x hx => hsub.subset hx) (s := (S : Int)) (v := T) h
              have HCUT := Lib.hid (fun h => cut_law (a := a) (b := b) hg (s := (S : Int)) (t := T) ⟨by omega, hS1⟩ ⟨by omega, hT1⟩ h)
              have HWI := Lib.hid (without_any (c := c) HL2.out a b hm3)
              have HWL := Lib.hid (Nat.le_trans (withoutG_len l a b) (Nat.le_of_eq HM.out))
              have HRS := Lib.hid hRS
              have HRW := Lib.hid hRW
              clear hg hgw hRS hRW HG hsub
              go_wp2_with fail
              refine (HWI.out).mono ?_
              rintro e w3 ⟨v, rfl, hv, hb⟩
              obtain ⟨B, d, rfl, hrd⟩ := hv.rd
              have HBG3 := Lib.hid (HBG2.out.below hb)
              have HW3 := Lib.hid (HW2.out.trans (hb.mono HW2.out.size))
              have HL3 := Lib.hid (HL2.out.below hb)
              clear p0 p1 p2 p3 p4 p5 p6 HBG2 HW2 HL2
              obtain ⟨p0, p1, p2, p3, p4, p5, p6⟩ := HBG3.out.cells
              have HRD := Lib.hid hrd
              have HDI := Lib.hid (Dist_any (c := c) HL3.out N S hm3)
              clear hb hv hrd HWI
              go_wp2_with fail
              refine (HDI.out).mono ?_
              rintro e w4 hgi
              unfold GivesD at hgi
              rw [if_pos HRS.out, Int.toNat_natCast] at hgi
              obtain ⟨x1, rfl, hrow, hb⟩ := hgi
              have HBG4 := Lib.hid (HBG3.out.below hb)
              have HW4 := Lib.hid (HW3.out.trans (hb.mono HW3.out.size))
              have HL4 := Lib.hid (HL3.out.below hb)
              clear p0 p1 p2 p3 p4 p5 p6 HBG3 HW3 HL3
              obtain ⟨p0, p1, p2, p3, p4, p5, p6⟩ := HBG4.out.cells
              have HD4 := Lib.hid hrow.rowL
              have HDJ := Lib.hid (Dist_any (c := d) (HRD.out.below hb) N S (Nat.le_trans HWL.out hm3))
              clear hb hrow HDI HRD
              go_wp2_with fail
              refine (HDJ.out).mono ?_
              rintro e w5 hgi
              unfold GivesD at hgi
              rw [if_pos HRW.out, Int.toNat_natCast] at hgi
              obtain ⟨x2, rfl, hrow, hb⟩ := hgi
              have HBG5 := Lib.hid (HBG4.out.below hb)
              have HW5 := Lib.hid (HW4.out.trans (hb.mono HW4.out.size))
              have HL5 := Lib.hid (HL4.out.below hb)
              clear p0 p1 p2 p3 p4 p5 p6 HBG4 HW4 HL4
              obtain ⟨p0, p1, p2, p3, p4, p5, p6⟩ := HBG5.out.cells
              have HD5 := Lib.hid (HD4.out.below hb)
              have HE5 := Lib.hid hrow.rowL
              clear hb hrow HDJ HD4
              have q1 := HD5.out T (by omega)
              have q2 := HE5.out T (by omega)
              have hT0 : (0 : Int) ≤ T := by omega
              have HUA := Lib.hid (fun w' (h : Below w5.heap.size w5 w') => Uses_any (c := c) (HL5.out.below h) N S T a b hm3)
              have HUB := Lib.hid (fun w' (h : Below w5.heap.size w5 w') => Uses_any (c := c) (HL5.out.below h) N S T b a hm3)
              have HBW := Lib.hid (fun w' (h : Below w5.heap.size w5 w') => And.intro (HBG5.out.below h) (And.intro (HD5.out.below h) (And.intro (HE5.out.below h) (HW5.out.trans (h.mono HW5.out.size)))))
              generalize hdd : D l (S : Int) T = dt at *
              generalize hee : D (withoutG l a b) (S : Int) T = et at *
              generalize usesG N l S T a b = u1 at *
              generalize usesG N l S T b a = u2 at *
              have HFIN : Hid (∀ w', Below w5.heap.size w5 w' → Cut8 W N A m c S T a b w' bx x1 x2 dt et) := Lib.hid (fun w' h => ⟨(HBW.out w' h).1, ((HBW.out w' h).2.1 T (by omega)).trans (by rw [hdd]), ((HBW.out w' h).2.2.1 T (by omega)).trans (by rw [hee]), (HBW.out w' h).2.2.2⟩)
              clear hdd hee HBW HD5 HE5 HBG5 HL5 HW5
              by_cases he0 : et ≥ 0
              · have f1 : decide (et ≥ 0) = true := decide_eq_true he0
                have h3 := hfew he0
                have f2 : decide (dt < 0) = false := decide_eq_false (by omega)
                have f3 : decide (et < dt) = false := decide_eq_false (by omega)
                go_wp2_with fail
                go_quiet (fail)
                have hw0 := below_dN (w := w5) nq
                generalize w5.drewN nq = w6 at hw0 ⊢
                obtain ⟨hg6, hd6, he6, hW6⟩ := HFIN.out w6 hw0
                have HB6 := Lib.hid hw0
                clear p0 p1 p2 p3 p4 p5 p6 q1 q2 hW6 hd6 he6
                obtain ⟨p0, p1, p2, p3, p4, p5, p6⟩ := hg6.cells
                clear hg6 hw0
                go_wp2_with fail
                refine (HUA.out _ HB6.out).mono ?_
                rintro e w7 ⟨rfl, hb7⟩
                have HB7 := Lib.hid (HB6.out.trans (hb7.mono HB6.out.size))
                clear p0 p1 p2 p3 p4 p5 p6 hb7 HB6
                obtain ⟨hg7, hd7, he7, hW7⟩ := HFIN.out w7 HB7.out
                have HW7 := Lib.hid hW7
                obtain ⟨p0, p1, p2, p3, p4, p5, p6⟩ := hg7.cells
                clear hg7 hW7
                cases u1
                · go_wp2_with fail
                  refine (HUB.out _ HB7.out).mono ?_
                  rintro e w8 ⟨rfl, hb8⟩
                  have HB8 := Lib.hid (HB7.out.trans (hb8.mono HB7.out.size))
                  clear p0 p1 p2 p3 p4 p5 p6 hb8 HB7 hd7 he7
                  obtain ⟨hg8, hd8, he8, hW8⟩ := HFIN.out w8 HB8.out
                  have HW8 := Lib.hid hW8
                  obtain ⟨p0, p1, p2, p3, p4, p5, p6⟩ := hg8.cells
                  clear hg8 hW8
                  cases u2
                  · have heq : et = dt := HCUT.out rfl
                    subst heq
                    have f9 : (et == et) = true := by simp
                    go_wp2_with fail
                    go_quiet (fail)
                    go_wp2_with fail
                    go_ret
                    exact ⟨rfl, HW8.out.trans ((below_dN _).mono HW8.out.size)⟩
                  · go_wp2_with fail
                    go_quiet (fail)
                    go_wp2_with fail
                    go_ret
                    exact ⟨rfl, HW8.out.trans ((below_dN _).mono HW8.out.size)⟩
                · go_wp2_with fail
                  go_quiet (fail)
                  go_wp2_with fail
                  go_ret
                  exact ⟨rfl, HW7.out.trans ((below_dN _).mono HW7.out.size)⟩
              · have f1 : decide (et ≥ 0) = false := decide_eq_false he0
                go_wp2_with fail
                go_quiet (fail)
                have hw0 := below_dN (w := w5) nq
                generalize w5.drewN nq = w6 at hw0 ⊢
                obtain ⟨hg6, hd6, he6, hW6⟩ := HFIN.out w6 hw0
                have HB6 := Lib.hid hw0
                clear p0 p1 p2 p3 p4 p5 p6 q1 q2 hW6 hd6 he6
                obtain ⟨p0, p1, p2, p3, p4, p5, p6⟩ := hg6.cells
                clear hg6 hw0
                go_wp2_with fail
                refine (HUA.out _ HB6.out).mono ?_
                rintro e w7 ⟨rfl, hb7⟩
                have HB7 := Lib.hid (HB6.out.trans (hb7.mono HB6.out.size))
                clear p0 p1 p2 p3 p4 p5 p6 hb7 HB6
                obtain ⟨hg7, hd7, he7, hW7⟩ := HFIN.out w7 HB7.out
                have HW7 := Lib.hid hW7
                obtain ⟨p0, p1, p2, p3, p4, p5, p6⟩ := hg7.cells
                clear hg7 hW7
                cases u1
                · go_wp2_with fail
                  refine (HUB.out _ HB7.out).mono ?_
                  rintro e w8 ⟨rfl, hb8⟩
                  have HB8 := Lib.hid (HB7.out.trans (hb8.mono HB7.out.size))
                  clear p0 p1 p2 p3 p4 p5 p6 hb8 HB7 hd7 he7
                  obtain ⟨hg8, hd8, he8, hW8⟩ := HFIN.out w8 HB8.out
                  have HW8 := Lib.hid hW8
                  obtain ⟨p0, p1, p2, p3, p4, p5, p6⟩ := hg8.cells
                  clear hg8 hW8
                  cases u2
                  · have heq : et = dt := HCUT.out rfl
                    subst heq
                    have f9 : (et == et) = true := by simp
                    go_wp2_with fail
                    go_quiet (fail)
                    go_wp2_with fail
                    go_ret
                    exact ⟨rfl, HW8.out.trans ((below_dN _).mono HW8.out.size)⟩
                  · go_wp2_with fail
                    go_quiet (fail)
                    go_wp2_with fail
                    go_ret
                    exact ⟨rfl, HW8.out.trans ((below_dN _).mono HW8.out.size)⟩
                · go_wp2_with fail
                  go_quiet (fail)
                  go_wp2_with fail
                  go_ret
                  exact ⟨rfl, HW7.out.trans ((below_dN _).mono HW7.out.size)⟩
  · have hm2 : decide ((m : Int) > 30) = true := decide_eq_true (by omega)
    go_wp2_with fail
    go_ret
    exact ⟨rfl, by have := HBX.out; subst this; exact HW1.out⟩
end Go.Proofs.Ytmdcfiejkbhgpaa
