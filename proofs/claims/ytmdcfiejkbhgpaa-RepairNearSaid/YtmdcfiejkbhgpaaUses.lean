/-
  spf.Uses, walked.
-/
import Derived.Test.YtmdcfiejkbhgpaaPath
namespace Go.Proofs.Ytmdcfiejkbhgpaa
open Go.RowKit

def isL (a b : Int) (x : Lk) : Bool := x.f == a && x.t == b
def idxL (l : List Lk) (a b : Int) (m : Nat) : Int := firstIdx (fun i => isL a b (l.getD i default)) m
set_option maxRecDepth 100000 in
set_option maxHeartbeats 4000000 in
theorem uses1_any (x : Lk) (w : World) (B C : Nat) (a b : Int) (hB : B < w.heap.size) (hC : C < w.heap.size) (hc : w.cell? ⟨B, 0, none⟩ = some (.int .i64 a)) (hd : w.cell? ⟨C, 0, none⟩ = some (.int .i64 b)) :
    Calls Try.prog 55 #[.agg #[.int .i64 x.f, .int .i64 x.t, .int .i64 x.c], .pointer (some ⟨B, 0, none⟩), .pointer (some ⟨C, 0, none⟩)] w fun e w' => e = .returned (.bool (isL a b x)) ∧ Below w.heap.size w w' := by
  obtain ⟨f, t, c⟩ := x
  have hne : B ≠ w.heap.size := by omega
  have hne2 : C ≠ w.heap.size := by omega
  have HV := Lib.hid (show isL a b ⟨f, t, c⟩ = ((f == a) && (t == b)) from rfl)
  by_cases h1 : f = a
  · have d1 : (f == a) = true := by simpa using h1
    clear h1
    go_enter Try.func55, Try.ntmps55
    go_wp2
    go_ret
    exact ⟨ret_bool (by rw [HV.out, d1]; rfl), by go_grown⟩
  · have d1 : (f == a) = false := by simpa using h1
    clear h1
    go_enter Try.func55, Try.ntmps55
    go_wp2
    go_ret
    exact ⟨ret_bool (by rw [HV.out, d1]; rfl), by go_grown⟩
theorem idx_uses {w : World} {A : Option Addr} {m c : Nat} {l : List Lk} (hr : Rd lkc 3 w A m l) (hm : m ≤ 1000) (B C : Nat) (a b : Int) (hB : B < w.heap.size) (hC : C < w.heap.size) (hc : w.cell? ⟨B, 0, none⟩ = some (.int .i64 a)) (hd : w.cell? ⟨C, 0, none⟩ = some (.int .i64 b)) :
    Calls Try.prog 50 #[.slice A m c, .func (.func 55) #[] #[.pointer (some ⟨B, 0, none⟩), .pointer (some ⟨C, 0, none⟩)]] w
      fun e W' => e = .returned (.int .i64 (idxL l a b m)) ∧ Below w.heap.size w W' := by
  refine (indexFunc A m c l 55 #[.pointer (some ⟨B, 0, none⟩), .pointer (some ⟨C, 0, none⟩)] (fun _ V => Below w.heap.size w V) (fun i => isL a b (l.getD i default)) w
    (enters_any Try.func55 (by kernel_rfl) rfl) (by omega) (fun _ V hb => hr.below hb) (fun i x V hx hb => ?_) (Below.refl _ _)).mono ?_
  · refine (uses1_any x V B C a b (Nat.lt_of_lt_of_le hB hb.size) (Nat.lt_of_lt_of_le hC hb.size) ((hb.cell (p := ⟨B, 0, none⟩) hB).trans hc) ((hb.cell (p := ⟨C, 0, none⟩) hC).trans hd)).mono fun e w' ⟨he, hb'⟩ => ⟨?_, hb.trans (hb'.mono hb.size)⟩
    rw [he, getD_of hx]
  · rintro e W' ⟨rfl, j, _, hj⟩
    exact ⟨rfl, hj⟩
/-- where the link stands, or that there is none -/
theorem idxL_is {l : List Lk} {a b : Int} {m : Nat} (hm : l.length = m) : (idxL l a b m = -1 ∧ (∀ k, (⟨a, b, k⟩ : Lk) ∉ l) ∧ linkC l a b = none) ∨ ∃ (i : Nat) (k : Int), idxL l a b m = i ∧ i < m ∧ l[i]? = some ⟨a, b, k⟩ ∧ linkC l a b = some k := by
  unfold idxL
  rcases firstIdx_cases (fun i => isL a b (l.getD i default)) m with ⟨h1, h2⟩ | ⟨i, h1, h2, h3, h4⟩
  · refine .inl ⟨h1, fun k hk => ?_, ?_⟩
    · obtain ⟨i, hi, e⟩ := List.getElem_of_mem hk
      have := h2 i (by omega)
      rw [getD_of (List.getElem?_eq_getElem hi), e] at this
      simp [isL] at this
    · unfold linkC
      rw [List.find?_eq_none.2 ?_]
      · rfl
      · intro x hx
        obtain ⟨i, hi, e⟩ := List.getElem_of_mem hx
        have := h2 i (by omega)
        rw [getD_of (List.getElem?_eq_getElem hi), e] at this
        unfold isL at this
        rw [this]
        simp
  · obtain ⟨x, hx⟩ : ∃ x, l[i]? = some x := ⟨_, List.getElem?_eq_getElem (by omega)⟩
    rw [getD_of hx] at h3
    obtain ⟨f, t, k⟩ := x
    have h3' := h3
    unfold isL at h3
    simp at h3
    obtain ⟨rfl, rfl⟩ := h3
    refine .inr ⟨i, k, h1, h2, hx, ?_⟩
    unfold linkC
    have hf : l.find? (fun x => x.f == f && x.t == t) = some ⟨f, t, k⟩ := by
      rw [List.find?_eq_some_iff_getElem]
      refine ⟨by simp, i, by omega, ?_, ?_⟩
      · rw [List.getElem?_eq_some_iff] at hx
        exact hx.2
      · intro j hj
        have := h4 j hj
        rw [getD_of (List.getElem?_eq_getElem (show j < l.length by omega))] at this
        unfold isL at this
        rw [this]
        rfl
    rw [hf]
    rfl

set_option maxRecDepth 100000 in
set_option maxHeartbeats 8000000 in
theorem Uses_any {w : World} {A : Option Addr} {m c : Nat} {l : List Lk} (hr : Rd lkc 3 w A m l) (n s t a b : Int) (hm : m ≤ 1000) :
    Calls Try.prog 27 #[.int .i64 n, .slice A m c, .int .i64 s, .int .i64 t, .int .i64 a, .int .i64 b] w fun e w' => e = .returned (.bool (usesG n l s t a b)) ∧ Below w.heap.size w w' := by
  have hal : Below w.heap.size w ((w.alloc (.cells #[.int .i64 a] 3)).alloc (.cells #[.int .i64 b] 3)) := by go_grown
  have hsz : ((w.alloc (.cells #[.int .i64 a] 3)).alloc (.cells #[.int .i64 b] 3)).heap.size = w.heap.size + 2 := by simp
  have hca : ((w.alloc (.cells #[.int .i64 a] 3)).alloc (.cells #[.int .i64 b] 3)).cell? ⟨w.heap.size, 0, none⟩ = some (.int .i64 a) := by simp
  have hcb : ((w.alloc (.cells #[.int .i64 a] 3)).alloc (.cells #[.int .i64 b] 3)).cell? ⟨w.heap.size + 1, 0, none⟩ = some (.int .i64 b) := by simp
  have HRI := Lib.hid (right_new (c := c) hr hal n hm [s, t, a, b] (by simp) 4 rfl)
  rw [rightV_four, hsz] at HRI
  have HU := Lib.hid (show usesG n l s t a b = ((rightG n l s && rightG n l t && rightG n l a && rightG n l b) && usesV l s t a b) from rfl)
  have HAL := Lib.hid hal
  have HSZ := Lib.hid hsz
  cases hg : (rightG n l s && rightG n l t && rightG n l a && rightG n l b) with
  | false =>
    rw [hg] at HRI HU
    have HU2 := Lib.hid (HU.out.trans (Bool.false_and _))
    clear hr hg HU hal hsz
    go_enter Try.func27, Try.ntmps27
    go_wp2_with (go_at_call 45; refine (HRI.out).mono ?_; rintro e w1 ⟨rfl, hb1⟩)
    go_ret
    exact ⟨ret_bool HU2.out.symm, HAL.out.trans (hb1.mono (by simp))⟩
  | true =>
    rw [hg] at HRI HU
    have HU2 := Lib.hid (HU.out.trans (Bool.true_and _))
    simp only [Bool.and_eq_true] at hg
    obtain ⟨hgk, hs0, hs1⟩ := rightG_ok.1 hg.1.1.1
    obtain ⟨-, ht0, ht1⟩ := rightG_ok.1 hg.1.1.2
    obtain ⟨-, ha0, ha1⟩ := rightG_ok.1 hg.1.2
    obtain ⟨-, hb0, hb1⟩ := rightG_ok.1 hg.2
    have HGK := Lib.hid hgk
    have HLM := Lib.hid hr.1
    have HR := Lib.hid hr
    have HDI := Lib.hid (fun w' (hb : Below w.heap.size w w') => dist_any (c := c) (hr.below hb) hgk ⟨hs0, hs1⟩ hm)
    have HBK := Lib.hid (fun w' (hb : Below w.heap.size w w') => back_any (c := c) (hr.below hb) hgk ⟨ht0, ht1⟩ hm)
    have HIX := Lib.hid (fun W (hb : Below (w.heap.size + 2) ((w.alloc (.cells #[.int .i64 a] 3)).alloc (.cells #[.int .i64 b] 3)) W) =>
      idx_uses (w := W) (c := c) ((hr.below hal).below (hb.mono (by simp))) hm w.heap.size (w.heap.size + 1) a b (by have := hb.size; omega) (by have := hb.size; omega) ((hb.cell (p := ⟨w.heap.size, 0, none⟩) (by simp)).trans hca) ((hb.cell (p := ⟨w.heap.size + 1, 0, none⟩) (by simp)).trans hcb))
    have HCELL := Lib.hid (fun W (hb : Below (w.heap.size + 2) ((w.alloc (.cells #[.int .i64 a] 3)).alloc (.cells #[.int .i64 b] 3)) W) => And.intro ((hb.cell (p := ⟨w.heap.size, 0, none⟩) (by simp)).trans hca) ((hb.cell (p := ⟨w.heap.size + 1, 0, none⟩) (by simp)).trans hcb))
    have HBW := Lib.hid (fun W (hb : Below (w.heap.size + 2) ((w.alloc (.cells #[.int .i64 a] 3)).alloc (.cells #[.int .i64 b] 3)) W) => hal.trans (hb.mono (by omega)))
    obtain ⟨N, hN⟩ : ∃ N : Nat, n = N := ⟨n.toNat, by omega⟩
    subst hN
    obtain ⟨P, rfl, hP1⟩ := nat_of_lt ha0 ha1
    obtain ⟨Q, rfl, hQ1⟩ := nat_of_lt hb0 hb1
    obtain ⟨S, rfl, hS1⟩ := nat_of_lt hs0 hs1
    obtain ⟨T, rfl, hT1⟩ := nat_of_lt ht0 ht1
    have hN64 := hgk.n64
    have htop := fun x y (h : 0 ≤ x ∧ x < (N : Int)) => And.intro (D_ge hgk.pos x y) (D_top (l := l) hgk (a := x) (t := y) h)
    have hzp := htop S P ⟨hs0, hs1⟩
    have hb2 := htop Q T ⟨hb0, hQ1⟩
    have hb3 := htop S T ⟨hs0, hs1⟩
    clear hg hgk hr hal hsz hca hcb HU htop hs0 hs1 ht0 ht1 ha1 hb1
    go_enter Try.func27, Try.ntmps27
    go_upto_region 4 with (first
      | (go_at_call 45; refine (HRI.out).mono ?_; rintro e w1 ⟨rfl, hw1⟩; have HIX1 := Lib.hid (HIX.out w1 hw1))
      | (go_at_call 50; refine (HIX1.out).mono ?_; rintro e w2 ⟨rfl, hw2⟩))
    have HW2 := Lib.hid (hw1.trans (hw2.mono (by have := hw1.size; simp at this; omega)))
    have HZ2 := Lib.hid (show w.heap.size + 2 ≤ w2.heap.size by have := HW2.out.size; simp at this; omega)
    have HD2 := Lib.hid (HDI.out w2 (HBW.out _ HW2.out))
    clear hw1 hw2 HIX HRI HIX1 HDI
    go_upto_region 5 with (first
      | (go_at_call 46; refine (HD2.out).mono ?_; rintro e w3 ⟨x1, rfl, hrow1, hw3⟩; have HW3 := Lib.hid (HW2.out.trans (hw3.mono HZ2.out)); have HB3 := Lib.hid (HBK.out w3 (HBW.out _ HW3.out)); rw [Int.toNat_natCast] at *; have HROW1 := Lib.hid hrow1.rowL; have HZ3 := Lib.hid (Nat.le_trans HZ2.out hw3.size); clear hrow1 hw3)
      | (go_at_call 49; refine (HB3.out).mono ?_; rintro e w4 ⟨x2, rfl, hrow2, hw4⟩; have HW4 := Lib.hid (HW3.out.trans (hw4.mono HZ3.out)); have hrow1 := HROW1.out.below hw4; rw [Int.toNat_natCast] at *; have HROW2 := Lib.hid hrow2.rowL; have HROW3 := Lib.hid hrow1; clear hrow1 hrow2 hw4))
    have HFIN := Lib.hid (HBW.out _ HW4.out)
    obtain ⟨hca, hcb⟩ := HCELL.out _ HW4.out
    have hcP := HROW3.out P (by omega)
    have hcT := HROW3.out T (by omega)
    have hcQ := HROW2.out Q (by omega)
    have HRW := Lib.hid (HR.out.below HFIN.out)
    simp only at hcQ
    have hP0 : (0 : Int) ≤ P := by omega
    have hQ0 : (0 : Int) ≤ Q := by omega
    have hT0 : (0 : Int) ≤ T := by omega
    have HUV := Lib.hid (show usesV l S T P Q = (decide (0 < costR l P Q) && decide (0 ≤ D l S P) && decide (0 ≤ D l Q T) && decide (D l S P + costR l P Q + D l Q T = D l S T)) from rfl)
    have HCR := Lib.hid (show costR l P Q = (linkC l P Q).getD 0 from rfl)
    have hix := idxL_is (l := l) (a := (P : Int)) (b := (Q : Int)) HLM.out
    generalize idxL l (P : Int) (Q : Int) m = ix at hix ⊢
    have HIS := Lib.hid hix
    rw [HUV.out] at HU2
    clear hix HUV HROW3 HROW2 HW3 HB3 HW2 HZ2 HD2 HZ3 HBK HROW1 HCELL
    generalize D l (S : Int) P = zp at *
    generalize D l (S : Int) T = zt at *
    generalize D l (Q : Int) T = zq at *
    rcases HIS.out with ⟨rfl, -, hl⟩ | ⟨i, k, rfl, him, hx, hl⟩
    · have HE := Lib.hid (show usesG N l S T P Q = false by rw [HU2.out, HCR.out, hl]; rfl)
      clear hl HU2 HIS
      go_quiet (fail)
      go_wp2_with fail
      go_ret
      exact ⟨ret_bool HE.out.symm, HFIN.out.trans ((below_dN _).mono HFIN.out.size)⟩
    · obtain ⟨y, lb, off, hy, rfl, hcell⟩ := HRW.out.at_ him
      obtain rfl : y = ⟨P, Q, k⟩ := by rw [hx] at hy; cases hy; rfl
      have c2 := hcell 2 _ rfl
      simp only at c2
      have hok := HGK.out.ok _ (List.mem_of_getElem? hx)
      simp only at hok
      have hk1 : 1 ≤ k := hok.2.2.2.2.2.1
      have hk2 : k ≤ 16777216 := hok.2.2.2.2.2.2
      have HE := Lib.hid (show usesG N l S T P Q = (decide (0 ≤ zp) && decide (0 ≤ zq) && decide (zp + k + zq = zt)) by
        rw [HU2.out, HCR.out, hl]
        have : decide (0 < (some k).getD 0) = true := by simp; omega
        rw [this, Bool.true_and]
        rfl)
      clear hl HU2 HIS hy hx hcell hok
      have hi0 : (0 : Int) ≤ i := by omega
      have him2 : (i : Int) < m := by omega
      by_cases h1 : zp = -1
      · have d1 : (zp != -1) = false := by simp [h1]
        have HE2 := Lib.hid (show usesG N l S T P Q = false by rw [HE.out, h1]; rfl)
        clear h1 HE
        go_quiet (fail)
        go_wp2_with fail
        go_ret
        exact ⟨ret_bool HE2.out.symm, HFIN.out.trans ((below_dN _).mono HFIN.out.size)⟩
      · have d1 : (zp != -1) = true := by simp [h1]
        by_cases h2 : zq = -1
        · have d2 : (zq != -1) = false := by simp [h2]
          have HE2 := Lib.hid (show usesG N l S T P Q = false by rw [HE.out, h2]; simp)
          clear h1 h2 HE
          go_quiet (fail)
          go_wp2_with fail
          go_ret
          exact ⟨ret_bool HE2.out.symm, HFIN.out.trans ((below_dN _).mono HFIN.out.size)⟩
        · have d2 : (zq != -1) = true := by simp [h2]
          have HE2 := Lib.hid (show usesG N l S T P Q = (zp + k + zq == zt) by
            rw [HE.out, decide_eq_true (show 0 ≤ zp by omega), decide_eq_true (show 0 ≤ zq by omega), Bool.true_and, Bool.true_and]
            rfl)
          have hw1 : IntKind.i64.wrap (zp + k) = zp + k := IntWalk.i64_in _ (by omega)
          have hw2 : IntKind.i64.wrap (zp + k + zq) = zp + k + zq := IntWalk.i64_in _ (by omega)
          clear h1 h2 HE
          go_quiet (fail)
          go_wp2_with fail
          go_ret
          exact ⟨ret_bool HE2.out.symm, HFIN.out.trans ((below_dN _).mono HFIN.out.size)⟩
end Go.Proofs.Ytmdcfiejkbhgpaa
