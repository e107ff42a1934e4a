/-
  spf.Cost, walked.
-/
import Derived.Test.YtmdcfiejkbhgpaaWithout
namespace Go.Proofs.Ytmdcfiejkbhgpaa
open Go.RowKit

set_option maxRecDepth 100000 in
set_option maxHeartbeats 4000000 in
theorem cost1_any (x : Lk) (w : World) (B C F g off n d i : Nat) (a b : Int) (hB : B < w.heap.size) (hC : C < w.heap.size) (hF : F < w.heap.size) (hw : w.cell? ⟨B, 0, none⟩ = some (.slice (some ⟨g, off, none⟩) n d)) (hi : i < n) (ha : w.cell? ⟨g, off + i, none⟩ = some (.int .i64 a)) (hc : w.cell? ⟨C, 0, none⟩ = some (.int .i64 i)) (hd : w.cell? ⟨F, 0, none⟩ = some (.int .i64 b)) :
    Calls Try.prog 51 #[.agg #[.int .i64 x.f, .int .i64 x.t, .int .i64 x.c], .pointer (some ⟨B, 0, none⟩), .pointer (some ⟨C, 0, none⟩), .pointer (some ⟨F, 0, none⟩)] w fun e w' => e = .returned (.bool (isL a b x)) ∧ Below w.heap.size w w' := by
  obtain ⟨f, t, c⟩ := x
  have hne : B ≠ w.heap.size := by omega
  have hne2 : C ≠ w.heap.size := by omega
  have hne3 : F ≠ w.heap.size := by omega
  have hg := World.block_lt_of_cell? w _ ha
  simp only at hg
  have hne4 : g ≠ w.heap.size := by omega
  have hi0 : (0 : Int) ≤ i := by omega
  have hi1 : (i : Int) < n := by omega
  have HV := Lib.hid (show isL a b ⟨f, t, c⟩ = ((f == a) && (t == b)) from rfl)
  by_cases h1 : f = a
  · have d1 : (f == a) = true := by simpa using h1
    clear h1
    go_enter Try.func51, Try.ntmps51
    go_upto_region 1 with fail
    go_quiet (fail)
    go_wp2
    go_ret
    exact ⟨ret_bool (by rw [HV.out, d1]; rfl), (below_al1 _ _).trans ((below_dN _).mono (by simp))⟩
  · have d1 : (f == a) = false := by simpa using h1
    clear h1
    go_enter Try.func51, Try.ntmps51
    go_upto_region 1 with fail
    go_quiet (fail)
    go_wp2
    go_ret
    exact ⟨ret_bool (by rw [HV.out, d1]; rfl), (below_al1 _ _).trans ((below_dN _).mono (by simp))⟩
theorem idx_cost {w : World} {A : Option Addr} {m c : Nat} {l : List Lk} (hr : Rd lkc 3 w A m l) (hm : m ≤ 1000) (B C F g off n d i : Nat) (a b : Int) (hB : B < w.heap.size) (hC : C < w.heap.size) (hF : F < w.heap.size) (hw : w.cell? ⟨B, 0, none⟩ = some (.slice (some ⟨g, off, none⟩) n d)) (hi : i < n) (ha : w.cell? ⟨g, off + i, none⟩ = some (.int .i64 a)) (hc : w.cell? ⟨C, 0, none⟩ = some (.int .i64 i)) (hd : w.cell? ⟨F, 0, none⟩ = some (.int .i64 b)) :
    Calls Try.prog 50 #[.slice A m c, .func (.func 51) #[] #[.pointer (some ⟨B, 0, none⟩), .pointer (some ⟨C, 0, none⟩), .pointer (some ⟨F, 0, none⟩)]] w
      fun e W' => e = .returned (.int .i64 (idxL l a b m)) ∧ Below w.heap.size w W' := by
  refine (indexFunc A m c l 51 #[.pointer (some ⟨B, 0, none⟩), .pointer (some ⟨C, 0, none⟩), .pointer (some ⟨F, 0, none⟩)] (fun _ V => Below w.heap.size w V) (fun i => isL a b (l.getD i default)) w
    (enters_any Try.func51 (by kernel_rfl) rfl) (by omega) (fun _ V hb => hr.below hb) (fun j x V hx hb => ?_) (Below.refl _ _)).mono ?_
  · refine (cost1_any x V B C F g off n d i a b (Nat.lt_of_lt_of_le hB hb.size) (Nat.lt_of_lt_of_le hC hb.size) (Nat.lt_of_lt_of_le hF hb.size) ((hb.cell (p := ⟨B, 0, none⟩) hB).trans hw) hi ((hb.cell (World.block_lt_of_cell? w _ ha)).trans ha) ((hb.cell (p := ⟨C, 0, none⟩) hC).trans hc) ((hb.cell (p := ⟨F, 0, none⟩) hF).trans hd)).mono fun e w' ⟨he, hb'⟩ => ⟨?_, hb.trans (hb'.mono hb.size)⟩
    rw [he, getD_of hx]
  · rintro e W' ⟨rfl, j, _, hj⟩
    exact ⟨rfl, hj⟩

set_option maxRecDepth 100000 in
set_option maxHeartbeats 8000000 in
theorem costw_any {w : World} {A E : Option Addr} {m k c d : Nat} {l : List Lk} {p : List Int} (hl : Rd lkc 3 w A m l) (hp : Rd intc 1 w E k p) (hs : Small l) (hm : m ≤ 1000) (hk : k ≤ 1000) (hkd : k ≤ d) :
    Calls Try.prog 22 #[.slice A m c, .slice E k d] w fun e w' => e = .returned (costV l p) ∧ Below w.heap.size w w' := by
  have HL := Lib.hid hl
  have HP := Lib.hid hp
  have HS := Lib.hid hs
  have HM := Lib.hid hl.1
  have hlp := hp.1
  clear hl hs
  cases p with
  | nil =>
    simp at hlp
    subst hlp
    have HV := Lib.hid (show costV l [] = .tuple #[.int .i64 0, .bool false] from rfl)
    have hbw : Below w.heap.size w (w.alloc (.cells #[.slice E 0 d] 29)) := by go_grown
    clear hp
    go_enter Try.func22, Try.ntmps22
    go_wp2_with fail
    go_ret2
    rw [HV.out]
    exact ⟨rfl, hbw⟩
  | cons a r =>
    obtain ⟨h, rfl⟩ : ∃ h : Nat, k = h + 1 := ⟨k - 1, by simp at hlp; omega⟩
    obtain ⟨_, g, off, _, rfl, _⟩ := hp.at_ (Nat.succ_pos h)
    have HR := Lib.hid (show r.length = h by simpa using hlp)
    have d0 : ((h : Int) + 1 == 0) = false := by simp; omega
    have i1 : (0 : Int) ≤ 1 := by omega
    have i2 : (1 : Int) ≤ (h : Int) + 1 := by omega
    have i3 : ((h : Int) + 1) ≤ (d : Int) := by omega
    clear hlp hp
    by_cases hd1 : d = 1
    · subst hd1
      obtain rfl : h = 0 := by omega
      have hr0 : r = [] := List.eq_nil_of_length_eq_zero HR.out
      subst hr0
      have HV := Lib.hid (show costV l [a] = .tuple #[.int .i64 0, .bool true] from rfl)
      have hbw : Below w.heap.size w (w.alloc (.cells #[.slice (some ⟨g, off, none⟩) (0 + 1) 1] 29)) := by go_grown
      have HBW := Lib.hid hbw
      clear hbw HL HS HM HP
      go_enter Try.func22, Try.ntmps22
      go_wp2_with fail
      go_loopw [6, 16] (fun al v wr => al = .int .i64 0 ∧ v = .int .i64 0 ∧ wr = w.alloc (.cells #[.slice (some ⟨g, off, none⟩) 1 1] 29)) (fun _ _ _ => 0)
      case atStart => exact ⟨rfl, rfl, rfl⟩
      case round =>
        obtain ⟨rfl, rfl, rfl⟩ := hrel
        go_wp2_with fail
        go_ret2
        rw [HV.out]
        exact ⟨rfl, HBW.out⟩
    · have hd2 : ¬ d - 1 = 0 := by omega
      go_enter Try.func22, Try.ntmps22
      go_wp2_with fail
      have HBA := Lib.hid (below_al1 w (.cells #[.slice (some ⟨g, off, none⟩) (h + 1) d] 29))
      have HWB := Lib.hid (show (w.alloc (.cells #[.slice (some ⟨g, off, none⟩) (h + 1) d] 29)).cell? ⟨w.heap.size, 0, none⟩ = some (.slice (some ⟨g, off, none⟩) (h + 1) d) by simp)
      have HLT := Lib.hid (show w.heap.size < (w.alloc (.cells #[.slice (some ⟨g, off, none⟩) (h + 1) d] 29)).heap.size by simp)
      generalize hbx : w.heap.size = bx at HWB HLT ⊢
      generalize World.alloc _ _ = wa at HBA HWB HLT ⊢
      have HPA := Lib.hid (HP.out.below HBA.out)
      have HLA := Lib.hid (HL.out.below HBA.out)
      have HB0 := Lib.hid (Below.refl wa.heap.size wa)
      have HBX := Lib.hid hbx
      clear hbx
      go_loopw [6, 16] (fun al v wr => ∃ (i : Nat) (s : Int), i ≤ h ∧ v = .int .i64 i ∧ al = .int .i64 s ∧ SumTo l a r i s ∧ Below wa.heap.size wa wr) (fun _ v _ => h - (intOf v).toNat)
      case atStart => exact ⟨0, 0, Nat.zero_le _, rfl, rfl, rfl, HB0.out⟩
      case round =>
        obtain ⟨i, s, hi, rfl, rfl, hsum, hbr⟩ := hrel
        have HSUM := Lib.hid hsum
        have HB := Lib.hid hbr
        have hbd := sumTo_bd HS.out hsum (by omega)
        clear hsum hbr
        have hi0 : (0 : Int) ≤ i := by omega
        by_cases hlt : i < h
        · have hi1 : (i : Int) < h := by omega
          obtain ⟨x, b1, o1, hx, he1, hcx⟩ := (HPA.out.below HB.out).at_ (show i < h + 1 by omega)
          obtain ⟨y, b1', o1', hy, he, hcy⟩ := (HPA.out.below HB.out).at_ (show i + 1 < h + 1 by omega)
          cases he
          cases he1
          have x0 := hcx 0 _ rfl
          have y0 := hcy 0 _ rfl
          rw [Nat.add_zero, Nat.mul_one] at x0 y0
          have y1 : wr.cell? ⟨g, off + 1 + i, none⟩ = some (.int .i64 y) := by rw [show off + 1 + i = off + (i + 1) by omega]; exact y0
          have HX := Lib.hid hx
          have HY := Lib.hid hy
          have HX0 := Lib.hid x0
          clear hx hy hcx hcy x0 y0
          go_upto_region 7 with fail
          have hsz : ((wr.alloc (.cells #[.int .i64 (i : Int)] 3)).alloc (.cells #[.int .i64 y] 3)).heap.size = wr.heap.size + 2 := by simp
          have hb2 : Below wr.heap.size wr ((wr.alloc (.cells #[.int .i64 (i : Int)] 3)).alloc (.cells #[.int .i64 y] 3)) := by go_grown
          have hg := World.block_lt_of_cell? wr _ HX0.out
          have hlt2 : bx < wr.heap.size := Nat.lt_of_lt_of_le HLT.out HB.out.size
          have HIX := Lib.hid (idx_cost (c := c) ((HLA.out.below HB.out).below hb2) hm bx wr.heap.size (wr.heap.size + 1) g off (h + 1) d i x y (by omega) (by omega) (by omega)
            ((hb2.cell (p := ⟨bx, 0, none⟩) hlt2).trans ((HB.out.cell (p := ⟨bx, 0, none⟩) HLT.out).trans HWB.out)) (by omega) ((hb2.cell hg).trans HX0.out) (by simp) (by simp))
          have HB2 := Lib.hid (HB.out.trans (hb2.mono HB.out.size))
          rw [hsz] at HIX
          have HSZ := Lib.hid hsz
          clear hsz hb2 hg hlt2 y1
          go_upto_region 8 with (go_at_call 50; refine (HIX.out).mono ?_; rintro e w3 ⟨rfl, hb3⟩)
          have HB3 := Lib.hid (HB2.out.trans (hb3.mono (by have := HB.out.size; omega)))
          have HLR := Lib.hid (HLA.out.below HB3.out)
          clear hb3
          have hix := idxL_is (l := l) (a := x) (b := y) HM.out
          generalize idxL l x y m = ix at hix ⊢
          rcases hix with ⟨rfl, -, hno⟩ | ⟨j, kc, rfl, hjm, hj, hlk⟩
          · have HV := Lib.hid (show costV l (a :: r) = .tuple #[.int .i64 0, .bool false] by unfold costV; rw [sumTo_none HSUM.out HX.out HY.out hno]; rfl)
            clear hno
            go_wp2_with fail
            go_ret2
            rw [HV.out]
            exact ⟨rfl, by have := HBX.out; subst this; exact HBA.out.trans (HB3.out.mono HBA.out.size)⟩
          · obtain ⟨z, b2, o2, hz, rfl, hcz⟩ := HLR.out.at_ hjm
            obtain rfl : z = ⟨x, y, kc⟩ := by rw [hj] at hz; cases hz; rfl
            have z2 := hcz 2 _ rfl
            simp only at z2
            have hzc := HS.out _ (List.mem_of_getElem? hz)
            simp only at hzc
            have HN := Lib.hid (sumTo_next HSUM.out HX.out HY.out hlk)
            have hw : IntKind.i64.wrap (s + kc) = s + kc := IntWalk.i64_in _ (by omega)
            have hj0 : (0 : Int) ≤ j := by omega
            have hj1 : (j : Int) < m := by omega
            have hj2 : ¬ (j : Int) < 0 := by omega
            clear hz hcz hj hlk
            go_wp2_with fail
            go_roundw
            case rel => exact ⟨i + 1, s + kc, by omega, by go_num, rfl, HN.out, HB3.out⟩
            case measure => simp [intOf]; omega
        · have hge : ¬ (i : Int) < h := by omega
          have HV := Lib.hid (show costV l (a :: r) = .tuple #[.int .i64 s, .bool true] by unfold costV; rw [sumTo_all HSUM.out (by rw [HR.out]; omega)]; rfl)
          clear HSUM hi hlt hi0
          go_wp2_with fail
          go_ret2
          rw [HV.out]
          exact ⟨rfl, by have := HBX.out; subst this; exact HBA.out.trans (HB.out.mono HBA.out.size)⟩
end Go.Proofs.Ytmdcfiejkbhgpaa
