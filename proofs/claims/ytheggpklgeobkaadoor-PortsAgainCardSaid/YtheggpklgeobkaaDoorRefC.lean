/-
  The reference's row of interfaces, walked: Remove, Set.
-/
import Derived.Test.YtheggpklgeobkaaDoorRefB
import Derived.Deep.DeepCutAuto
import Derived.Deep.CutRange
namespace Go.Proofs.YtheggpklgeobkaaDoor
open Go.RowKit

set_option maxRecDepth 100000 in
set_option maxHeartbeats 2000000 in
theorem rrem_any {w : World} {B : Nat} {v : Value} {S : PS} (hv : RowAt w B v (lst S)) (hB : B ≤ w.heap.size) (n : Int) :
    Calls Tryd.prog 18 #[v, .int .i64 n] w (Gives w B (remS S n) (hasE S n)) := by
  have HV := Lib.hid hv
  have hl := lst_len S
  have hbw : Below w.heap.size w w := Below.refl _ _
  by_cases h : inP n
  · obtain ⟨k, rfl, hk⟩ := nat_of_inP h
    have hk0 : (0 : Int) ≤ k := by omega
    have hk1 : (k : Int) ≤ 63 := by omega
    obtain ⟨A, c, rfl, hcl, hr⟩ := hv.rd
    have HF := Lib.hid (find_any (c := c) hr k (by omega))
    have HIS := Lib.hid (is_lst S hk)
    rw [HIS.out] at HF
    cases hx : S k with
    | none =>
      have HE := Lib.hid (show hasE S k = 31 by simp [hasE, h, hx])
      have HS := Lib.hid (show S = remS S k by simp [remS, HE.out])
      rw [hx] at HF
      simp only [Option.isSome_none] at HF
      clear h hk hv hx HIS hr
      go_enter Tryd.func18, Tryd.ntmps18
      go_wp2_with (go_at_call 30; refine (HF.out).mono ?_; rintro e w' ⟨rfl, nd, rfl⟩)
      go_ret2
      rw [HE.out]
      exact gives_no HV.out HS.out ⟨rfl, rfl, rfl, Nat.le_refl _, fun _ _ => rfl⟩
    | some x =>
      have HE := Lib.hid (show hasE S k = 0 by simp [hasE, h, hx])
      have HS := Lib.hid (show updP S k none = remS S k by rw [remS, if_pos HE.out]; rfl)
      have HL := Lib.hid (lst_rem hk hx)
      rw [hx] at HF
      simp only [Option.isSome_some] at HF
      have HP := Lib.hid (pos_lst S hk)
      have hj : posL (lst S) (k : Int) < (lst S).length := by
        rw [pos_lst S hk]; exact (List.getElem?_eq_some_iff.1 (lst_at hk hx)).1
      rw [← HP.out] at HL
      clear HP
      generalize posL (lst S) (k : Int) = j at *
      have hj0 : (0 : Int) ≤ j := by omega
      have hj1 : (j : Int) + 1 ≤ (lst S).length := by omega
      have hj2 : (j : Int) + 1 ≤ c := by omega
      have hcl' : ((lst S).length : Int) ≤ c := by omega
      clear h hk hx HIS hr hv
      rcases own_form HV.out with ⟨hA, hl0⟩ | ⟨g, cap, hA, -⟩
      · omega
      · cases hA
        by_cases hjc : j + 1 = c
        · subst hjc
          go_enter Tryd.func18, Tryd.ntmps18
          go_wp2_with fail
          refine (HF.out).mono ?_
          rintro e w1 ⟨rfl, nd, rfl⟩
          have HV1 := Lib.hid (HV.out.drewN nd)
          have HB1 := Lib.hid (show Below w.heap.size w (w.drewN nd) from ⟨rfl, rfl, rfl, Nat.le_refl _, fun _ _ => rfl⟩)
          generalize w.drewN nd = w1 at HV1 HB1 ⊢
          go_wp2_with (first
            | (at_builtin; refine app_rd rfl (.tmp 25) _ rfl w.heap.size (.slice none 0 0) [] ((lst S).take j) rfl (rowAt_nil _ _) (some ⟨g, 0, none⟩) j _ rfl (rd_take (rd_of HV1.out) (by omega)) (fun h => by cases h) (by simp; omega) HB1.out.size ?_; intro v1 w2 hown1 hg1; have HO1 := Lib.hid hown1; have HB2 := Lib.hid (below_app HB1.out (rowAt_nil _ _) hg1); clear hown1 hg1)
            | (at_builtin; refine app_rd rfl (.tmp 30) _ rfl w.heap.size v1 _ [] rfl HO1.out (some ⟨g, 0, none⟩) _ _ rfl (rd_zero (by omega)) (fun h => by cases h) (by simp; omega) HB2.out.size ?_; intro v3 w4 hown3 hg3; have HO3 := Lib.hid hown3; have HB4 := Lib.hid (below_app HB2.out HO1.out hg3); clear hown3 hg3))
          go_ret2
          rw [HE.out]
          refine ⟨_, rfl, ?_, HB4.out⟩
          rw [← HS.out, ← HL.out]
          have := own_mono HO3.out hB
          rw [List.drop_of_length_le (by omega)]
          exact this
        · go_enter Tryd.func18, Tryd.ntmps18
          go_wp2_with fail
          refine (HF.out).mono ?_
          rintro e w1 ⟨rfl, nd, rfl⟩
          have HV1 := Lib.hid (HV.out.drewN nd)
          have HB1 := Lib.hid (show Below w.heap.size w (w.drewN nd) from ⟨rfl, rfl, rfl, Nat.le_refl _, fun _ _ => rfl⟩)
          have HW := Lib.hid HV.out
          have hjc' : ¬ (c : Int) = (j : Int) + 1 := by omega
          have hjc2 : ¬ c = j + 1 := by omega
          generalize w.drewN nd = w1 at HV1 HB1 ⊢
          go_wp2_with (first
            | (at_builtin; refine app_rd rfl (.tmp 25) _ rfl w.heap.size (.slice none 0 0) [] ((lst S).take j) rfl (rowAt_nil _ _) (some ⟨g, 0, none⟩) j c rfl (rd_take (rd_of HV1.out) (by omega)) (fun h => by cases h) (by simp; omega) HB1.out.size ?_; intro v1 w2 hown1 hg1; have HO1 := Lib.hid hown1; have HB2 := Lib.hid (below_app HB1.out (rowAt_nil _ _) hg1); clear hown1 hg1)
            | (at_builtin; refine app_rd rfl (.tmp 30) _ rfl w.heap.size v1 _ ((lst S).drop (j + 1)) rfl HO1.out (some ⟨g, (j + 1) * 3, none⟩) _ _ rfl (rd_drop (rd_of (HW.out.below HB2.out))) (fun h => by cases h) (by simp; omega) HB2.out.size ?_; intro v3 w4 hown3 hg3; have HO3 := Lib.hid hown3; have HB4 := Lib.hid (below_app HB2.out HO1.out hg3); clear hown3 hg3))
          go_ret2
          rw [HE.out]
          refine ⟨_, rfl, ?_, HB4.out⟩
          rw [← HS.out, ← HL.out]
          exact own_mono HO3.out hB
  · have HE := Lib.hid (show hasE S n = 50 by simp [hasE, h])
    have HS := Lib.hid (show S = remS S n by simp [remS, HE.out])
    unfold inP at h
    by_cases h0 : n < 0
    · clear h hv
      go_enter Tryd.func18, Tryd.ntmps18
      go_wp2_with fail
      go_ret2
      rw [HE.out]
      exact gives_no HV.out HS.out hbw
    · have h1 : 63 < n := by omega
      clear h hv
      go_enter Tryd.func18, Tryd.ntmps18
      go_wp2_with fail
      go_ret2
      rw [HE.out]
      exact gives_no HV.out HS.out hbw

theorem set_up {l : List Pe} {j : Nat} {e : Pe} (h : l[j]? = some e) (u : Bool) : (flatE pen l).set (j * 3 + 2) (.bool u) = flatE pen (l.set j ⟨e.num, e.mtu, u⟩) := by
  have hj := (List.getElem?_eq_some_iff.1 h).1
  have hlen : (flatE pen l).length = l.length * 3 := flatE_length pen_len l
  rw [flatE_set pen_len l j _ hj]
  apply List.ext_getElem?
  intro q
  rw [setAll_at, List.getElem?_set, hlen]
  have c0 := flatE_at pen_len h (show 0 < 3 by decide)
  have c1 := flatE_at pen_len h (show 1 < 3 by decide)
  by_cases hq : j * 3 ≤ q ∧ q < j * 3 + (pen ⟨e.num, e.mtu, u⟩).length ∧ q < l.length * 3
  · rw [if_pos hq]
    have h3 : (pen ⟨e.num, e.mtu, u⟩).length = 3 := rfl
    rw [h3] at hq
    by_cases e2 : j * 3 + 2 = q
    · subst e2
      rw [if_pos rfl, if_pos hq.2.2, show j * 3 + 2 - j * 3 = 2 by omega]; rfl
    · rw [if_neg e2]
      by_cases e1 : q = j * 3 + 1
      · subst e1; rw [c1, show j * 3 + 1 - j * 3 = 1 by omega]; rfl
      · obtain rfl : q = j * 3 + 0 := by omega
        rw [c0, show j * 3 + 0 - j * 3 = 0 by omega]; rfl
  · rw [if_neg hq]
    have h3 : (pen ⟨e.num, e.mtu, u⟩).length = 3 := rfl
    rw [h3] at hq
    rw [if_neg (by omega)]

set_option maxRecDepth 100000 in
set_option maxHeartbeats 2000000 in
theorem rset_any {w : World} {B : Nat} {v : Value} {S : PS} (hv : RowAt w B v (lst S)) (hB : B ≤ w.heap.size) (n : Int) (u : Bool) :
    Calls Tryd.prog 19 #[v, .int .i64 n, .bool u] w (Gives w B (setS S n u) (hasE S n)) := by
  have HV := Lib.hid hv
  have hl := lst_len S
  have hbw : Below w.heap.size w w := Below.refl _ _
  by_cases h : inP n
  · obtain ⟨k, rfl, hk⟩ := nat_of_inP h
    have hk0 : (0 : Int) ≤ k := by omega
    have hk1 : (k : Int) ≤ 63 := by omega
    obtain ⟨A, c, rfl, hcl, hr⟩ := hv.rd
    have HF := Lib.hid (find_any (c := c) hr k (by omega))
    have HIS := Lib.hid (is_lst S hk)
    rw [HIS.out] at HF
    cases hx : S k with
    | none =>
      have HE := Lib.hid (show hasE S k = 31 by simp [hasE, h, hx])
      have HS := Lib.hid (show S = setS S k u by simp [setS, HE.out])
      rw [hx] at HF
      simp only [Option.isSome_none] at HF
      clear h hk hv hx HIS hr
      go_enter Tryd.func19, Tryd.ntmps19
      go_wp2_with (go_at_call 30; refine (HF.out).mono ?_; rintro e w' ⟨rfl, nd, rfl⟩)
      go_ret2
      rw [HE.out]
      exact gives_no HV.out HS.out ⟨rfl, rfl, rfl, Nat.le_refl _, fun _ _ => rfl⟩
    | some x =>
      have HE := Lib.hid (show hasE S k = 0 by simp [hasE, h, hx])
      have HS := Lib.hid (show updP S k (some (x.1, u)) = setS S k u by rw [setS, if_pos HE.out]; simp [hx])
      have HL := Lib.hid (lst_set hk hx u)
      have HAT := Lib.hid (lst_at hk hx)
      rw [hx] at HF
      simp only [Option.isSome_some] at HF
      have HP := Lib.hid (pos_lst S hk)
      have hj : posL (lst S) (k : Int) < (lst S).length := by
        rw [pos_lst S hk]; exact (List.getElem?_eq_some_iff.1 (lst_at hk hx)).1
      rw [← HP.out] at HL HAT
      clear HP
      generalize posL (lst S) (k : Int) = j at *
      have hj0 : (0 : Int) ≤ j := by omega
      have hj1 : (j : Int) < (lst S).length := by omega
      clear h hk hx HIS hr hv
      rcases own_form HV.out with ⟨hA, hl0⟩ | ⟨g, cap, hA, -⟩
      · omega
      · cases hA
        go_enter Tryd.func19, Tryd.ntmps19
        go_wp2_with fail
        refine (HF.out).mono ?_
        rintro e w1 ⟨rfl, nd, rfl⟩
        have HV1 := Lib.hid (HV.out.drewN nd)
        have HB1 := Lib.hid (show Below w.heap.size w (w.drewN nd) from ⟨rfl, rfl, rfl, Nat.le_refl _, fun _ _ => rfl⟩)
        generalize w.drewN nd = w1 at HV1 HB1 ⊢
        go_upto_region 8 with (at_builtin; refine app_rd rfl (.tmp 27) _ rfl w.heap.size (.slice none 0 0) [] (lst S) rfl (rowAt_nil _ _) (some ⟨g, 0, none⟩) _ _ rfl (rd_of HV1.out) (fun h => by cases h) (by simp; omega) HB1.out.size ?_; intro v1 w2 hown1 hg1; have HO1 := Lib.hid hown1; have HB2 := Lib.hid (below_app HB1.out (rowAt_nil _ _) hg1); clear hown1 hg1)
        rw [List.nil_append] at HO1
        rcases own_form HO1.out with ⟨hA, hl0⟩ | ⟨g1, cap1, hA, hg1, hg2, hc1, -⟩
        · omega
        · subst hA
          have hcell : w2.cell? ⟨g1, j * 3 + 2, none⟩ = some (.bool x.2) := by
            rw [(HO1.out).cellAt (j * 3 + 2) (by omega), flatE_at pen_len HAT.out (show 2 < 3 by decide)]; rfl
          have hfr := (HO1.out).frozenAt (j * 3 + 2)
          have HST := Lib.hid (((HO1.out).stored (j * 3 + 2) (.bool u)).1)
          have HBF := Lib.hid (HB2.out.setCell (p := ⟨g1, j * 3 + 2, none⟩) hg1 (.bool u))
          go_wp2
          go_ret2
          rw [HE.out]
          refine ⟨_, rfl, ?_, HBF.out⟩
          rw [← HS.out, ← HL.out]
          have h := HST.out
          rw [set_up HAT.out] at h
          unfold RowAt
          rw [List.length_set]
          exact own_mono h hB
  · have HE := Lib.hid (show hasE S n = 50 by simp [hasE, h])
    have HS := Lib.hid (show S = setS S n u by simp [setS, HE.out])
    unfold inP at h
    by_cases h0 : n < 0
    · clear h hv
      go_enter Tryd.func19, Tryd.ntmps19
      go_wp2_with fail
      go_ret2
      rw [HE.out]
      exact gives_no HV.out HS.out hbw
    · have h1 : 63 < n := by omega
      clear h hv
      go_enter Tryd.func19, Tryd.ntmps19
      go_wp2_with fail
      go_ret2
      rw [HE.out]
      exact gives_no HV.out HS.out hbw
end Go.Proofs.YtheggpklgeobkaaDoor
