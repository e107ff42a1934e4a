/-
  spf.Path, walked.
-/
import Derived.Test.YtmdcfiejkbhgpaaOuter
namespace Go.Proofs.Ytmdcfiejkbhgpaa
open Go.RowKit

set_option maxRecDepth 100000 in
set_option maxHeartbeats 8000000 in
theorem path_any {w : World} {A : Option Addr} {m c : Nat} {l : List Lk} (hr : Rd lkc 3 w A m l) (n s t : Int) (hm : m ≤ 1000) :
    Calls Try.prog 20 #[.int .i64 n, .slice A m c, .int .i64 s, .int .i64 t] w fun e w' => ∃ v, e = .returned v ∧ IntsAt w' w.heap.size v (pathG n l s t) ∧ Below w.heap.size w w' := by
  have HRI := Lib.hid (right_new (c := c) hr (Below.refl _ _) n hm [s, t] (by simp) 2 rfl)
  rw [rightV_two] at HRI
  cases hg : (rightG n l s && rightG n l t) with
  | false =>
    have HE := Lib.hid (show pathG n l s t = [] by unfold pathG; rw [if_neg fun h => by rw [h.1, h.2] at hg; cases hg])
    rw [hg] at HRI
    clear hr hg
    go_enter Try.func20, Try.ntmps20
    go_wp2_with (go_at_call 45; refine (HRI.out).mono ?_; rintro e w1 ⟨rfl, hb1⟩)
    go_ret
    exact ⟨_, rfl, by rw [HE.out]; exact intsAt_nil _ _, hb1⟩
  | true =>
    rw [hg] at HRI
    rw [Bool.and_eq_true] at hg
    obtain ⟨hgk, hs0, hs1⟩ := rightG_ok.1 hg.1
    obtain ⟨-, ht0, ht1⟩ := rightG_ok.1 hg.2
    have HP := Lib.hid (show pathG n l s t = pathL n l s t by unfold pathG; rw [if_pos hg])
    have HGK := Lib.hid hgk
    have HS := Lib.hid (And.intro hs0 hs1)
    have HT := Lib.hid (And.intro ht0 ht1)
    have HBK := Lib.hid (fun w' (hb : Below w.heap.size w w') => back_any (c := c) (hr.below hb) hgk ⟨ht0, ht1⟩ hm)
    have HNX := Lib.hid (fun w' (hb : Below w.heap.size w w') b N (hN : n = (N : Nat)) x (hx : 0 ≤ x ∧ x < n) hl => next_any (w := w') (b := b) (N := N) (a := x) (c := c) (hr.below hb) hgk hN hx ⟨ht0, ht1⟩ hl hm)
    obtain ⟨N, hN⟩ : ∃ N : Nat, n = N := ⟨n.toNat, by omega⟩
    subst hN
    have hN64 := hgk.n64
    obtain ⟨S, rfl, hS1⟩ := nat_of_lt hs0 hs1
    clear hr hg hgk ht0 ht1
    by_cases hd : D l S t = -1
    · have HE := Lib.hid (show pathG N l S t = [] by rw [HP.out, pathL_no (by omega)])
      have HDE := Lib.hid hd
      clear hd
      go_enter Try.func20, Try.ntmps20
      go_wp2_with (first
        | (go_at_call 45; refine (HRI.out).mono ?_; rintro e w1 ⟨rfl, hb1⟩)
        | (go_at_call 49; refine (HBK.out _ hb1).mono ?_; rintro e w2 ⟨b, rfl, hrow, hb2⟩; rw [Int.toNat_natCast] at *; have HB2 := Lib.hid (hb1.trans (hb2.mono hb1.size)); have HROW := Lib.hid hrow.rowL; have hcs := hrow.cell (i := S) (by omega); clear hrow hb2 hb1; rw [HDE.out] at hcs))
      go_ret
      exact ⟨_, rfl, by rw [HE.out]; exact intsAt_nil _ _, HB2.out⟩
    · have HDN := Lib.hid (show (D l S t == -1) = false by simpa using hd)
      have hds : 0 ≤ D l S t := by have := D_ge HGK.out.pos S t; omega
      have HW0 := Lib.hid (show OnWay N l S t [] S from ⟨rfl, by omega, hs0, hs1⟩)
      have HDS := Lib.hid hds
      clear hd hds
      go_enter Try.func20, Try.ntmps20
      go_wp2_with (first
        | (go_at_call 45; refine (HRI.out).mono ?_; rintro e w1 ⟨rfl, hb1⟩)
        | (go_at_call 49; refine (HBK.out _ hb1).mono ?_; rintro e w2 ⟨b, rfl, hrow, hb2⟩; rw [Int.toNat_natCast] at *; have HB2 := Lib.hid (hb1.trans (hb2.mono hb1.size)); have HROW := Lib.hid hrow.rowL; have hcs := hrow.cell (i := S) (by omega); clear hrow hb2 hb1; have d1 := HDN.out; generalize D l (S : Int) t = zz at hcs d1))
      have HO1 := Lib.hid (intsAt_one (Nat.le_refl w2.heap.size) (S : Int))
      have HB3 := Lib.hid (below_al1 w2 (.cells #[.int .i64 (S : Int)] 3))
      go_loopw [10, 11] (fun o v wr => ∃ (q : List Int) (x : Int), v = .int .i64 x ∧ IntsAt wr w2.heap.size o (q ++ [x]) ∧ OnWay N l S t q x ∧ Below w2.heap.size w2 wr) (fun _ v _ => (D l (intOf v) t).toNat)
      case atStart => exact ⟨[], S, rfl, HO1.out, HW0.out, HB3.out⟩
      case round =>
        obtain ⟨q, x, rfl, hown, hway, hbr⟩ := hrel
        have HO := Lib.hid hown
        have HW := Lib.hid hway
        have HB := Lib.hid hbr
        have HBW := Lib.hid (HB2.out.trans (hbr.mono HB2.out.size))
        have HRL := Lib.hid (HROW.out.below hbr)
        have hlen := onWay_len HGK.out hway HS.out HDS.out
        clear hown hway hbr HO1 HB3 HW0 hcs
        by_cases hx : x = t
        · have d2 : (x == t) = true := by simpa using hx
          have HE := Lib.hid (show q ++ [x] = pathG N l S t by rw [HP.out]; rw [hx]; exact onWay_end HGK.out (by have := HW.out; rwa [hx] at this))
          clear hx
          go_wp2_with fail
          go_ret
          exact ⟨_, rfl, by rw [← HE.out]; exact own_mono HO.out HB2.out.size, HBW.out⟩
        · have d2 : (x == t) = false := by simpa using hx
          obtain ⟨y, r, hb, hw', hlt⟩ := onWay_step HGK.out HW.out HT.out hx
          rw [nextsU_eq HGK.out HW.out.2.2 HT.out] at hb
          have HBE := Lib.hid hb
          have HW' := Lib.hid hw'
          have HLT := Lib.hid (show (D l y t).toNat < (D l x t).toNat by have := HW'.out.2.1; omega)
          have HNX2 := Lib.hid (HNX.out _ HBW.out b N rfl x HW.out.2.2 HRL.out)
          clear hb hw' hlt hx
          go_wp2_with fail
          refine (HNX2.out).mono ?_
          rintro e w4 ⟨v4, rfl, hown4, hb4⟩
          rw [HBE.out] at hown4
          obtain ⟨g4, cap4, rfl, hc4⟩ := hown4.first
          have HO4 := Lib.hid (HO.out.below hb4)
          have HB4 := Lib.hid (HB.out.trans (hb4.mono HB.out.size))
          have hr0 : (0 : Int) ≤ (r.length : Int) := by omega
          clear hown4 hb4 HNX2
          go_wp2_with (first
            | (at_builtin; refine app_int rfl (.tmp 40) (.tmp 42) rfl w2.heap.size _ _ y rfl (HO4.out.below (below_al1 _ _)) w4.heap.size rfl (one_int _ _) (by simp; omega) (HB4.out.alloc HB4.out.size _).size ?_; intro v2 w5 hown2 hg2; have HO5 := Lib.hid hown2; have HB5 := Lib.hid (intsAt_app (HB4.out.alloc HB4.out.size _) (HO4.out.below (below_al1 _ _)) hg2); clear hown2 hg2))
          go_roundw
          case rel => exact ⟨q ++ [x], y, rfl, HO5.out, HW'.out, HB5.out⟩
          case measure => exact HLT.out
end Go.Proofs.Ytmdcfiejkbhgpaa
