/-
  Whether a graph may be: in plain words, and the reference's Check, right.
-/
import Derived.Test.YtmdcfiejkbhgpaaWays
namespace Go.Proofs.Ytmdcfiejkbhgpaa
open Go.RowKit

def badL (n : Int) (x : Lk) : Bool := decide (x.f < 0) || decide (n ≤ x.f) || decide (x.t < 0) || decide (n ≤ x.t) || x.f == x.t || decide (x.c < 1) || decide (16777216 < x.c)
def sameL (x y : Lk) : Prop := x.f = y.f ∧ x.t = y.t
instance (x y : Lk) : Decidable (sameL x y) := by unfold sameL; infer_instance
/-- no two links of the same two nodes -/
def noDup (l : List Lk) : Prop := l.Pairwise (fun x y => ¬ sameL x y)
instance (l : List Lk) : Decidable (noDup l) := by unfold noDup; infer_instance
def chkG (n : Int) (l : List Lk) : Int := if n < 1 ∨ 64 < n then 1 else if l.any (badL n) = true then 1 else if noDup l then 0 else 32
theorem chkG_ok {n : Int} {l : List Lk} : chkG n l = 0 ↔ GOk n l := by
  unfold chkG
  constructor
  · intro h
    split at h
    · cases h
    · split at h
      · cases h
      · split at h
        · rename_i h1 h2 h3
          refine ⟨by omega, by omega, fun x hx => ?_, h3.imp fun hn => hn⟩
          have h4 : badL n x = false := by
            rw [Bool.eq_false_iff]
            intro e
            exact h2 (List.any_eq_true.2 ⟨x, hx, e⟩)
          unfold badL at h4
          simp at h4
          refine ⟨by omega, by omega, by omega, by omega, ?_, by omega, by omega⟩
          exact h4.1.1.2
        · cases h
  · intro h
    rw [if_neg (by have := h.n1; have := h.n64; omega), if_neg, if_pos]
    · exact h.uniq.imp fun hn => hn
    · intro he
      obtain ⟨x, hx, hb⟩ := List.any_eq_true.1 he
      have := h.ok x hx
      unfold badL at hb
      simp at hb
      omega
def lkc (x : Lk) : List Value := [.int .i64 x.f, .int .i64 x.t, .int .i64 x.c]
theorem lkc_len (x : Lk) : (lkc x).length = 3 := rfl
theorem lkc_one (x : Lk) : ∀ u ∈ lkc x, u.oneCell' = true := by
  intro u hu
  simp [lkc] at hu
  rcases hu with rfl | rfl | rfl <;> rfl
theorem any_at {n : Int} {l : List Lk} {k : Nat} {x : Lk} (hx : l[k]? = some x) (hb : badL n x = true) (h : ¬ (n < 1 ∨ 64 < n)) : chkG n l = 1 := by
  unfold chkG
  rw [if_neg h, if_pos (List.any_eq_true.2 ⟨x, List.mem_of_getElem? hx, hb⟩)]
theorem any_none {n : Int} {l : List Lk} (h : ∀ (j : Nat) (x : Lk), l[j]? = some x → badL n x = false) : l.any (badL n) = false := by
  rw [List.any_eq_false]
  intro x hx
  obtain ⟨j, hj, rfl⟩ := List.getElem_of_mem hx
  rw [h j _ (List.getElem?_eq_getElem hj)]; simp
theorem dup_at {n : Int} {l : List Lk} {i j : Nat} {x y : Lk} (hx : l[i]? = some x) (hy : l[j]? = some y) (hij : j < i) (hs : sameL y x) (h : ¬ (n < 1 ∨ 64 < n)) (hb : l.any (badL n) = false) : chkG n l = 32 := by
  unfold chkG
  rw [if_neg h, if_neg (by rw [hb]; simp), if_neg]
  intro hd
  obtain ⟨h1, rfl⟩ := List.getElem?_eq_some_iff.1 hx
  obtain ⟨h2, rfl⟩ := List.getElem?_eq_some_iff.1 hy
  exact List.pairwise_iff_getElem.1 hd j i h2 h1 hij hs
theorem dup_none {n : Int} {l : List Lk} (hd : ∀ (i j : Nat) (x y : Lk), j < i → l[i]? = some x → l[j]? = some y → ¬ sameL y x) (h : ¬ (n < 1 ∨ 64 < n)) (hb : l.any (badL n) = false) : chkG n l = 0 := by
  unfold chkG
  rw [if_neg h, if_neg (by rw [hb]; simp), if_pos]
  refine List.pairwise_iff_getElem.2 fun i j hi hj hij => hd j i _ _ hij (List.getElem?_eq_getElem hj) (List.getElem?_eq_getElem hi)

/-- none of the first k links is wrong -/
def NoBad (n : Int) (l : List Lk) (k : Nat) : Prop := ∀ (j : Nat) (x : Lk), j < k → l[j]? = some x → badL n x = false
/-- link i is not of the nodes of any of the first k links -/
def NoTwin (l : List Lk) (i k : Nat) : Prop := ∀ (j : Nat) (x y : Lk), j < k → l[i]? = some x → l[j]? = some y → ¬ sameL y x
theorem noBad_zero (n : Int) (l : List Lk) : NoBad n l 0 := fun j _ h => absurd h (Nat.not_lt_zero j)
theorem noBad_succ {n : Int} {l : List Lk} {k : Nat} {x : Lk} (h : NoBad n l k) (hx : l[k]? = some x) (hb : badL n x = false) : NoBad n l (k + 1) := by
  intro j y hj hy
  by_cases e : j = k
  · subst e; rw [hx] at hy; cases hy; exact hb
  · exact h j y (by omega) hy
theorem noBad_all {n : Int} {l : List Lk} (h : NoBad n l l.length) : l.any (badL n) = false := any_none fun j x hx => h j x (List.getElem?_eq_some_iff.1 hx).1 hx
theorem noTwin_succ {l : List Lk} {i k : Nat} {x y : Lk} (h : NoTwin l i k) (hx : l[i]? = some x) (hy : l[k]? = some y) (hs : ¬ sameL y x) : NoTwin l i (k + 1) := by
  intro j a b hj ha hb
  by_cases e : j = k
  · subst e; rw [hx] at ha; rw [hy] at hb; cases ha; cases hb; exact hs
  · exact h j a b (by omega) ha hb

def NoTwins (l : List Lk) (i : Nat) : Prop := ∀ a, a < i → NoTwin l a a
theorem noTwins_succ {l : List Lk} {i : Nat} (h : NoTwins l i) (h' : NoTwin l i i) : NoTwins l (i + 1) := by
  intro a ha
  by_cases e : a = i
  · subst e; exact h'
  · exact h a (by omega)
theorem noTwins_all {n : Int} {l : List Lk} (h : NoTwins l l.length) (hn : ¬ (n < 1 ∨ 64 < n)) (hb : l.any (badL n) = false) : chkG n l = 0 :=
  dup_none (fun i j _ _ hij hx hy => h i (List.getElem?_eq_some_iff.1 hx).1 j _ _ hij hx hy) hn hb

set_option maxRecDepth 100000 in
set_option maxHeartbeats 8000000 in
theorem rcheck_any {w : World} {A : Option Addr} {m c : Nat} {l : List Lk} (hr : Rd lkc 3 w A m l) (n : Int) (hm : m ≤ 1000) :
    Calls Try.prog 14 #[.int .i64 n, .slice A m c] w fun e w' => e = .returned (.int .i64 (chkG n l)) ∧ Below w.heap.size w w' := by
  have HR := Lib.hid hr
  have HL := Lib.hid hr.1
  have hbw : Below w.heap.size w w := Below.refl _ _
  clear hr
  by_cases hn : n < 1 ∨ 64 < n
  · have HC := Lib.hid (show chkG n l = 1 by unfold chkG; rw [if_pos hn])
    rcases hn with hn | hn
    · go_enter Try.func14, Try.ntmps14
      go_wp2_with fail
      go_ret
      rw [HC.out]
      exact ⟨rfl, hbw⟩
    · have hn' : decide (n < 1) = false := by simp; omega
      go_enter Try.func14, Try.ntmps14
      go_wp2_with fail
      go_ret
      rw [HC.out]
      exact ⟨rfl, hbw⟩
  · have HN := Lib.hid hn
    have hn1 : decide (n < 1) = false := by simp; omega
    have hn2 : decide (n > 64) = false := by simp; omega
    have hn3 : n ≤ 64 := by omega
    clear hn
    go_enter Try.func14, Try.ntmps14
    go_wp2_with fail
    go_loopw [5] (fun v wr => ∃ k : Nat, k ≤ m ∧ v = .int .i64 k ∧ NoBad n l k ∧ Below w.heap.size w wr) (fun v _ => m - (intOf v).toNat)
    case atStart => exact ⟨0, Nat.zero_le _, rfl, noBad_zero _ _, hbw⟩
    case round =>
      obtain ⟨k, hk, rfl, hbef, hbr⟩ := hrel
      have HBEF := Lib.hid hbef
      have HBR := Lib.hid hbr
      clear hbef hbr
      have hk0 : (0 : Int) ≤ k := by omega
      by_cases hlt : k < m
      · obtain ⟨⟨xf, xt, xc⟩, b, off, hx, rfl, hcell⟩ := (HR.out.below HBR.out).at_ hlt
        have hk1 : (k : Int) < m := by omega
        have c0 := hcell 0 _ rfl
        have c1 := hcell 1 _ rfl
        have c2 := hcell 2 _ rfl
        rw [Nat.add_zero] at c0
        simp only at c0 c1 c2
        have HX := Lib.hid hx
        have HBX := Lib.hid (HBR.out.trans ((show Below wr.heap.size wr (wr.alloc (.cells #[.int .i64 xf, .int .i64 xt, .int .i64 xc] 34)) by go_grown).mono HBR.out.size))
        clear hx hcell
        by_cases g1 : xf < 0
        · have HBAD := Lib.hid (any_at HX.out (show badL n ⟨xf, xt, xc⟩ = true by unfold badL; simp [g1]) HN.out)
          have d1 : decide (xf < 0) = true := decide_eq_true g1
          clear g1
          go_wp2_with fail
          go_ret
          exact ⟨ret_int HBAD.out.symm, HBX.out⟩
        have d1 : decide (xf < 0) = false := by simp; omega
        by_cases g2 : n ≤ xf
        · have HBAD := Lib.hid (any_at HX.out (show badL n ⟨xf, xt, xc⟩ = true by unfold badL; simp [g2]) HN.out)
          have d2 : decide (xf ≥ n) = true := decide_eq_true (by omega)
          clear g2
          go_wp2_with fail
          go_ret
          exact ⟨ret_int HBAD.out.symm, HBX.out⟩
        have d2 : decide (xf ≥ n) = false := by simp; omega
        by_cases g3 : xt < 0
        · have HBAD := Lib.hid (any_at HX.out (show badL n ⟨xf, xt, xc⟩ = true by unfold badL; simp [g3]) HN.out)
          have d3 : decide (xt < 0) = true := decide_eq_true g3
          clear g3
          go_wp2_with fail
          go_ret
          exact ⟨ret_int HBAD.out.symm, HBX.out⟩
        have d3 : decide (xt < 0) = false := by simp; omega
        by_cases g4 : n ≤ xt
        · have HBAD := Lib.hid (any_at HX.out (show badL n ⟨xf, xt, xc⟩ = true by unfold badL; simp [g4]) HN.out)
          have d4 : decide (xt ≥ n) = true := decide_eq_true (by omega)
          clear g4
          go_wp2_with fail
          go_ret
          exact ⟨ret_int HBAD.out.symm, HBX.out⟩
        have d4 : decide (xt ≥ n) = false := by simp; omega
        by_cases g5 : xf = xt
        · have HBAD := Lib.hid (any_at HX.out (show badL n ⟨xf, xt, xc⟩ = true by unfold badL; simp [g5]) HN.out)
          have d5 : (xf == xt) = true := by simpa using g5
          clear g5
          go_wp2_with fail
          go_ret
          exact ⟨ret_int HBAD.out.symm, HBX.out⟩
        have d5 : (xf == xt) = false := by simpa using g5
        by_cases g6 : xc < 1
        · have HBAD := Lib.hid (any_at HX.out (show badL n ⟨xf, xt, xc⟩ = true by unfold badL; simp [g6]) HN.out)
          have d6 : decide (xc < 1) = true := decide_eq_true g6
          clear g6
          go_wp2_with fail
          go_ret
          exact ⟨ret_int HBAD.out.symm, HBX.out⟩
        have d6 : decide (xc < 1) = false := by simp; omega
        by_cases g7 : 16777216 < xc
        · have HBAD := Lib.hid (any_at HX.out (show badL n ⟨xf, xt, xc⟩ = true by unfold badL; simp [g7]) HN.out)
          have d7 : decide (xc > 16777216) = true := decide_eq_true (by omega)
          clear g7
          go_wp2_with fail
          go_ret
          exact ⟨ret_int HBAD.out.symm, HBX.out⟩
        have d7 : decide (xc > 16777216) = false := by simp; omega
        have HGOOD := Lib.hid (show badL n ⟨xf, xt, xc⟩ = false by unfold badL; simp; omega)
        clear g1 g2 g3 g4 g5 g6 g7
        go_wp2_with fail
        go_roundw
        case rel => exact ⟨k + 1, by omega, by go_num, noBad_succ HBEF.out HX.out HGOOD.out, HBX.out⟩
        case measure => simp [intOf]; omega
      · obtain rfl : k = m := by omega
        have HANY := Lib.hid (noBad_all (show NoBad n l l.length by rw [HL.out]; exact HBEF.out))
        have hge : ¬ (k : Int) < k := by omega
        clear HBEF hk hlt hk0
        go_wp2_with fail
        obtain ⟨m, rfl⟩ : ∃ m : Nat, m = k := ⟨_, rfl⟩
        go_loopw [7, 8] (fun v _ wr => ∃ i : Nat, i ≤ m ∧ v = .int .i64 i ∧ NoTwins l i ∧ Below w.heap.size w wr) (fun v _ _ => m - (intOf v).toNat)
        case atStart => exact ⟨0, Nat.zero_le _, rfl, fun a h => absurd h (Nat.not_lt_zero a), HBR.out⟩
        case round =>
          obtain ⟨i, hi, rfl, htw, hb1⟩ := hrel
          have HTW := Lib.hid htw
          have HB1 := Lib.hid hb1
          clear htw hb1
          have hi0 : (0 : Int) ≤ i := by omega
          by_cases hlt : i < m
          · have hi1 : (i : Int) < m := by omega
            go_wp2_with fail
            go_loopw [8] (fun v wx => ∃ j : Nat, j ≤ i ∧ v = .int .i64 j ∧ NoTwin l i j ∧ Below w.heap.size w wx) (fun v _ => i - (intOf v).toNat)
            case atStart => exact ⟨0, Nat.zero_le _, rfl, fun a _ _ h => absurd h (Nat.not_lt_zero a), HB1.out⟩
            case round =>
              obtain ⟨j, hj, rfl, hno, hb2⟩ := hrel
              have HNO := Lib.hid hno
              have HB2 := Lib.hid hb2
              clear hno hb2
              have hj0 : (0 : Int) ≤ j := by omega
              by_cases hji : j < i
              · obtain ⟨⟨xf, xt, xc⟩, b, off, hx, rfl, hcell⟩ := (HR.out.below HB2.out).at_ hlt
                obtain ⟨⟨yf, yt, yc⟩, b', off', hy, hA, hcell'⟩ := (HR.out.below HB2.out).at_ (show j < m by omega)
                cases hA
                have hj1 : (j : Int) < i := by omega
                have hj2 : (j : Int) < m := by omega
                have c0 := hcell 0 _ rfl
                have c1 := hcell 1 _ rfl
                have e0 := hcell' 0 _ rfl
                have e1 := hcell' 1 _ rfl
                rw [Nat.add_zero] at c0 e0
                simp only at c0 c1 e0 e1
                have HX := Lib.hid hx
                have HY := Lib.hid hy
                clear hx hy hcell hcell'
                by_cases hf : xf = yf
                · by_cases ht : xt = yt
                  · have HC := Lib.hid (dup_at HX.out HY.out hji ⟨hf.symm, ht.symm⟩ HN.out HANY.out)
                    subst hf; subst ht
                    go_wp2_with fail
                    go_quiet (fail)
                    have HBQ := Lib.hid (show Below w.heap.size w (wr.drewN nq) from ⟨HB2.out.os, HB2.out.tape, HB2.out.output, HB2.out.size, HB2.out.block⟩)
                    go_wp2
                    go_ret
                    exact ⟨ret_int HC.out.symm, HBQ.out⟩
                  · have HNS := Lib.hid (noTwin_succ HNO.out HX.out HY.out (fun e => ht e.2.symm))
                    have d2 : (xt == yt) = false := by simpa using ht
                    subst hf
                    clear ht
                    go_wp2_with fail
                    go_quiet (fail)
                    have HBQ := Lib.hid (show Below w.heap.size w (wr.drewN nq) from ⟨HB2.out.os, HB2.out.tape, HB2.out.output, HB2.out.size, HB2.out.block⟩)
                    go_wp2
                    go_roundw
                    case rel => exact ⟨j + 1, by omega, by go_num, HNS.out, HBQ.out⟩
                    case measure => simp [intOf]; omega
                · have HNS := Lib.hid (noTwin_succ HNO.out HX.out HY.out (fun e => hf e.1.symm))
                  have d1 : (xf == yf) = false := by simpa using hf
                  clear hf
                  go_wp2_with fail
                  go_quiet (fail)
                  have HBQ := Lib.hid (show Below w.heap.size w (wr.drewN nq) from ⟨HB2.out.os, HB2.out.tape, HB2.out.output, HB2.out.size, HB2.out.block⟩)
                  go_wp2
                  go_roundw
                  case rel => exact ⟨j + 1, by omega, by go_num, HNS.out, HBQ.out⟩
                  case measure => simp [intOf]; omega
              · obtain rfl : j = i := by omega
                have HNT := Lib.hid (noTwins_succ HTW.out HNO.out)
                clear HNO HTW
                go_wp2_with fail
                go_roundw
                case rel => exact ⟨j + 1, by omega, by go_num, HNT.out, HB2.out⟩
                case measure => simp [intOf]; omega
          · obtain rfl : i = m := by omega
            have HC := Lib.hid (noTwins_all (show NoTwins l l.length by rw [HL.out]; exact HTW.out) HN.out HANY.out)
            clear HTW hi hlt hi0
            go_wp2_with fail
            go_ret
            exact ⟨ret_int HC.out.symm, HB1.out⟩
end Go.Proofs.Ytmdcfiejkbhgpaa
