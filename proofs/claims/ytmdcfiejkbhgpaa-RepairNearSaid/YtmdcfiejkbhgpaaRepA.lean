/-
  repair: a graph and the link that is cut; right, clean; the reference's right, Clean.
-/
import Derived.Test.YtmdcfiejkbhgpaaCosts
namespace Go.Proofs.Ytmdcfiejkbhgpaa
open Go.RowKit

/-- does a node come to another one as ever, without the link of s and e? -/
noncomputable def cleanV (n : Int) (l : List Lk) (s e a b : Int) : Bool := decide (0 ≤ D l a b) && !usesG n l a b s e && !usesG n l a b e s
/-- block p holds a view -/
def BoxV (W : World) (p : Nat) (n : Int) (A : Option Addr) (m c : Nat) (s e : Int) : Prop := W.heap[p]? = some (.cells #[.int .i64 n, .slice A m c, .int .i64 s, .int .i64 e] 74 (0, 0))
section
variable {W W' : World} {p : Nat} {n : Int} {A : Option Addr} {m c : Nat} {s e : Int}
theorem BoxV.cells (h : BoxV W p n A m c s e) : p < W.heap.size ∧ W.cell? ⟨p, 0, none⟩ = some (.int .i64 n) ∧ W.cell? ⟨p, 1, none⟩ = some (.slice A m c) ∧ W.cell? ⟨p, 2, none⟩ = some (.int .i64 s) ∧ W.cell? ⟨p, 3, none⟩ = some (.int .i64 e) := by
  have h' : W.heap[p]? = _ := h
  refine ⟨(Array.getElem?_eq_some_iff.1 h').1, ?_, ?_, ?_, ?_⟩ <;> (rw [cell_of_row _ _ _ _ _ (0, 0) h']; rfl)
theorem BoxV.below (h : BoxV W p n A m c s e) (hb : Below W.heap.size W W') : BoxV W' p n A m c s e := (hb.block p h.cells.1).trans h
end
/-- two numbers put behind a row of the call's own -/
theorem run_int2 (w : World) {B : Nat} {v : Value} {l : List Int} (hown : IntsAt w B v l) (hl : l.length ≤ 1000000) (y z : Int) (b : Nat) (hr : ∀ j u, [Value.int .i64 y, .int .i64 z][j]? = some u → w.cell? ((⟨b, 0, none⟩ : Addr).add j) = some u) (hB : B ≤ w.heap.size) :
    ∃ v' w', (Builtin.append_ #[29, 29] 29 #[v, .slice (some ⟨b, 0, none⟩) 2 2]).run Try.prog w = .ok v' w' ∧ IntsAt w' B v' (l ++ [y, z]) ∧ w.grownBy w' v.ownBlock := by
  obtain ⟨i0, hi, hz0, hz1, hz2⟩ := info_parts Try.info_int
  obtain ⟨v', w', hrun, hown', hg, -, -⟩ := run_append_own_at (P := Try.prog) w B 29 29 3 i0 (.int .i64 0) 1 8 Try.underlying29 hi hz0 hz1 hz2 rfl (by decide) v l.length _ hown ⟨b, 0, none⟩ 2 2 [.int .i64 y, .int .i64 z] rfl hr (by
    intro u hu
    simp at hu
    rcases hu with rfl | rfl <;> rfl) (by unfold maxLen; omega) (by omega) hB
  refine ⟨v', w', hrun, ?_, hg⟩
  unfold IntsAt ints
  rw [List.map_append, List.length_append]
  exact hown'

/-- an append whose run is known, guarded or not -/
theorem app_run {ops : Array Oper} {rest : List Oper} {o : Oper} {a : Act} {w : World} {Q : Exit → Act → World → Prop} (hw : Region.wanted o (yielded ops a.tmps) = true) (s x : Operand) (t : TypeId)
    (ho : o.op = .call { callee := .builtin .append, args := #[s, x], argTypes := #[t, t] }) (v u v' : Value) (w' : World) (hs : a.eval s = v) (hx : a.eval x = u)
    (hrun : (Builtin.append_ #[t, t] o.type #[v, u]).run Try.prog w = .ok v' w') (h : wpList Try.prog ops Q rest (a.put o.dst v') w') : wpList Try.prog ops Q (o :: rest) a w := by
  refine BigFrame.wpList_want hw fun K hK => ?_
  unfold Oper.wp execOp
  simp only [ho, resolve, invoke, builtin, Sem.run_bind, Sem.run_pure, Result.andThen_ok, List.map_toArray, List.map_cons, List.map_nil, hs, hx, hrun]
  exact hK _ _ h

theorem vout_any (x : Int) (w : World) (B : Nat) (n : Int) (hc : w.cell? ⟨B, 0, none⟩ = some (.int .i64 n)) :
    Calls Try.prog 73 #[.int .i64 x, .pointer (some ⟨B, 0, none⟩)] w fun e w' => e = .returned (.bool (outV n x)) ∧ Below w.heap.size w w' := by
  by_cases h0 : x < 0
  · have d0 : decide (x < 0) = true := decide_eq_true h0
    go_enter Try.func73, Try.ntmps73
    go_wp2
    go_ret
    exact ⟨ret_bool (by unfold outV; rw [d0]; rfl), by go_grown⟩
  · have d0 : decide (x < 0) = false := decide_eq_false h0
    go_enter Try.func73, Try.ntmps73
    go_wp2
    go_ret
    exact ⟨ret_bool (by unfold outV; rw [d0]; simp), by go_grown⟩

set_option maxRecDepth 100000 in
set_option maxHeartbeats 4000000 in
theorem vright_any {w : World} {A : Option Addr} {m c B : Nat} {l : List Lk} (hr : Rd lkc 3 w A m l) (n s e : Int) (hm : m ≤ 1000) {v : Value} {ns : List Int} (hv : IntsAt w B v ns) (hns : ns.length ≤ 1000) (hB : B ≤ w.heap.size) :
    Calls Try.prog 57 #[.agg #[.int .i64 n, .slice A m c, .int .i64 s, .int .i64 e], v] w fun r w' => r = .returned (.bool (rightV n l (ns ++ [s, e]))) ∧ Below B w w' := by
  have hal := below_al1 w (.cells #[.int .i64 n, .slice A m c, .int .i64 s, .int .i64 e] 74)
  have HBV := Lib.hid (show BoxV (w.alloc (.cells #[.int .i64 n, .slice A m c, .int .i64 s, .int .i64 e] 74)) w.heap.size n A m c s e from heap_alloc_new _ _)
  have HAL := Lib.hid hal
  have HV := Lib.hid hv
  have HCK := Lib.hid (check_any (c := c) (hr.below hal) n hm)
  have HR := Lib.hid (show rightV n l (ns ++ [s, e]) = (chkG n l == 0 && !(ns ++ [s, e]).any (outV n)) from rfl)
  have HLV := Lib.hid (fun g h => (World.ownsRow.lt hv g h))
  clear hr hal hv
  generalize chkG n l = ck at HCK HR
  go_enter Try.func57, Try.ntmps57
  obtain ⟨p0, p1, p2, p3, p4⟩ := HBV.out.cells
  go_wp2_with fail
  refine (HCK.out).mono ?_
  rintro r w1 ⟨rfl, hb1⟩
  have HBV1 := Lib.hid (HBV.out.below hb1)
  have HW1 := Lib.hid (HAL.out.trans (hb1.mono HAL.out.size))
  have HSZ := Lib.hid (show w.heap.size < w1.heap.size by have := hb1.size; simp at this; omega)
  clear p0 p1 p2 p3 p4 hb1 HCK HAL HBV
  obtain ⟨p0, p1, p2, p3, p4⟩ := HBV1.out.cells
  by_cases h0 : ck = 0
  · have d0 : (ck == 0) = true := by simpa using h0
    have hal2 := below_al1 w1 (.cells #[.int .i64 s, .int .i64 e] 3)
    obtain ⟨v', w3, hrun, hown, hg⟩ := run_int2 (w1.alloc (.cells #[.int .i64 s, .int .i64 e] 3)) ((HV.out.below HW1.out).below hal2) (by omega) s e w1.heap.size (new_cells w1 [.int .i64 s, .int .i64 e] 3) (Nat.le_trans (Nat.le_trans hB HW1.out.size) hal2.size)
    have hbx : BoxV w3 w.heap.size n A m c s e := by
      have h1 := HBV1.out.below hal2
      exact (hg.block w.heap.size h1.cells.1 (fun h => by have := (HLV.out w.heap.size h.symm).2; omega)).trans h1
    have HB3 : Hid (Below B w w3) := Lib.hid (((HW1.out.mono hB).trans (hal2.mono (Nat.le_trans hB HW1.out.size))).grown hg (Nat.le_trans (Nat.le_trans hB HW1.out.size) hal2.size) (fun k hk => (HLV.out k hk).1))
    obtain ⟨A', c', rfl, hrd⟩ := hown.rd
    have HCF := Lib.hid (containsFuncI A' (ns ++ [s, e]).length c' (ns ++ [s, e]) 73 #[.pointer (some ⟨w.heap.size, 0, none⟩)] (fun _ V => Below w3.heap.size w3 V) (fun i => outV n ((ns ++ [s, e]).getD i 0)) w3
      (enters_any Try.func73 (by kernel_rfl) rfl) (by simp; omega) (fun _ V hb => hrd.below hb) (fun i x V hx hb => (vout_any x V w.heap.size n (hbx.below hb).cells.2.1).mono fun e w' ⟨he, hb'⟩ => ⟨by rw [he, getD_of hx], hb.trans (hb'.mono hb.size)⟩) (Below.refl _ _))
    rw [range_any (ns ++ [s, e]) 0 (outV n), show (ns ++ [s, e]).length = ns.length + 2 by simp] at HCF
    have HB3S := Lib.hid (show B ≤ w3.heap.size from Nat.le_trans hB HB3.out.size)
    have HRUN := Lib.hid hrun
    clear hown hrd hg hal2 hbx HBV1 HW1 h0 hrun
    generalize (ns ++ [s, e]).any (outV n) = q at HCF HR
    go_wp2_with (at_builtin; refine Hid.out (p := _) ?_)
    refine Lib.hid ?_
    refine app_run rfl (.tmp 12) (.tmp 17) 29 rfl v (.slice (some ⟨w1.heap.size, 0, none⟩) 2 2) _ w3 rfl rfl HRUN.out ?_
    go_wp2_with fail
    refine (HCF.out).mono ?_
    rintro e w4 ⟨rfl, j, _, hb4⟩
    go_wp2_with fail
    go_ret
    exact ⟨ret_bool (by rw [HR.out, d0]; rfl), HB3.out.trans (hb4.mono HB3S.out)⟩
  · have d0 : (ck == 0) = false := by simpa using h0
    go_wp2_with fail
    go_ret
    exact ⟨ret_bool (by rw [HR.out, d0]; rfl), HW1.out.mono hB⟩

set_option maxRecDepth 100000 in
set_option maxHeartbeats 4000000 in
theorem clean_any {w : World} {A : Option Addr} {m c : Nat} {l : List Lk} (hr : Rd lkc 3 w A m l) {n : Int} (hg : GOk n l) (s e : Int) {a b : Int} (ha : 0 ≤ a ∧ a < n) (hb : 0 ≤ b ∧ b < n) (hm : m ≤ 1000) :
    Calls Try.prog 60 #[.agg #[.int .i64 n, .slice A m c, .int .i64 s, .int .i64 e], .int .i64 a, .int .i64 b] w fun r w' => r = .returned (.bool (cleanV n l s e a b)) ∧ Below w.heap.size w w' := by
  obtain ⟨N, hN⟩ : ∃ N : Nat, n = N := ⟨n.toNat, by omega⟩
  subst hN
  obtain ⟨P, rfl, hP1⟩ := nat_of_lt ha.1 ha.2
  obtain ⟨Q, rfl, hQ1⟩ := nat_of_lt hb.1 hb.2
  have hal := below_al1 w (.cells #[.int .i64 N, .slice A m c, .int .i64 s, .int .i64 e] 74)
  have HBV := Lib.hid (show BoxV (w.alloc (.cells #[.int .i64 N, .slice A m c, .int .i64 s, .int .i64 e] 74)) w.heap.size N A m c s e from heap_alloc_new _ _)
  have HAL := Lib.hid hal
  have HL := Lib.hid (hr.below hal)
  have HRG := Lib.hid (rightG_in hg ha)
  have HDI := Lib.hid (Dist_any (c := c) (hr.below hal) N P hm)
  have HCV := Lib.hid (show cleanV N l s e P Q = (decide (0 ≤ D l P Q) && !usesG N l P Q s e && !usesG N l P Q e s) from rfl)
  have hP0 : (0 : Int) ≤ P := by omega
  have hQ0 : (0 : Int) ≤ Q := by omega
  clear hr hg hal ha hb
  go_enter Try.func60, Try.ntmps60
  obtain ⟨p0, p1, p2, p3, p4⟩ := HBV.out.cells
  go_wp2_with fail
  refine (HDI.out).mono ?_
  rintro r w1 hgi
  unfold GivesD at hgi
  rw [if_pos HRG.out, Int.toNat_natCast] at hgi
  obtain ⟨x1, rfl, hrow, hb1⟩ := hgi
  have HBV1 := Lib.hid (HBV.out.below hb1)
  have HW1 := Lib.hid (HAL.out.trans (hb1.mono HAL.out.size))
  have HL1 := Lib.hid (HL.out.below hb1)
  have q1 := hrow.cell (i := Q) (by omega)
  clear p0 p1 p2 p3 p4 hb1 HDI HAL HBV HL hrow
  obtain ⟨p0, p1, p2, p3, p4⟩ := HBV1.out.cells
  generalize D l (P : Int) Q = dq at q1 HCV
  by_cases h0 : dq ≥ 0
  · have d0 : decide (dq ≥ 0) = true := decide_eq_true h0
    have d0' : decide (0 ≤ dq) = true := decide_eq_true h0
    have HU1 := Lib.hid (Uses_any (c := c) HL1.out N P Q s e hm)
    rw [d0', Bool.true_and] at HCV
    clear h0
    go_wp2_with fail
    refine (HU1.out).mono ?_
    rintro r w2 ⟨rfl, hb2⟩
    have HBV2 := Lib.hid (HBV1.out.below hb2)
    have HW2 := Lib.hid (HW1.out.trans (hb2.mono HW1.out.size))
    have HU2 := Lib.hid (Uses_any (c := c) (HL1.out.below hb2) N P Q e s hm)
    clear p0 p1 p2 p3 p4 hb2 HBV1 HW1 HL1 HU1 q1
    obtain ⟨p0, p1, p2, p3, p4⟩ := HBV2.out.cells
    generalize usesG N l P Q s e = u1 at HCV ⊢
    generalize usesG N l P Q e s = u2 at HCV HU2
    cases u1
    · go_wp2_with fail
      refine (HU2.out).mono ?_
      rintro r w3 ⟨rfl, hb3⟩
      have HW3 := Lib.hid (HW2.out.trans (hb3.mono HW2.out.size))
      clear hb3 HU2
      go_wp2_with fail
      go_ret
      exact ⟨ret_bool (by rw [HCV.out]; simp), HW3.out⟩
    · go_wp2_with fail
      go_ret
      exact ⟨ret_bool (by rw [HCV.out]; simp), HW2.out⟩
  · have d0 : decide (dq ≥ 0) = false := decide_eq_false h0
    have d0' : decide (0 ≤ dq) = false := decide_eq_false h0
    rw [d0'] at HCV
    clear h0
    go_wp2_with fail
    go_ret
    exact ⟨ret_bool (by rw [HCV.out]; simp), HW1.out⟩

/-! ### the reference's -/
theorem rightG_def {n : Int} {l : List Lk} {v : Int} : rightG n l v = (chkG n l == 0 && decide (0 ≤ v) && decide (v < n)) := rfl
set_option maxRecDepth 100000 in
set_option maxHeartbeats 4000000 in
theorem rright2_any {w : World} {A : Option Addr} {m c : Nat} {l : List Lk} (hr : Rd lkc 3 w A m l) (n a b : Int) (hm : m ≤ 1000) :
    Calls Try.prog 61 #[.int .i64 n, .slice A m c, .int .i64 a, .int .i64 b] w fun e w' => e = .returned (.bool (rightG n l a && rightG n l b)) ∧ Below w.heap.size w w' := by
  have HC := Lib.hid (rcheck_any (c := c) hr n hm)
  rw [rightG_def, rightG_def]
  clear hr
  generalize chkG n l = ck at *
  by_cases h0 : ck = 0
  · have h0b : (ck == 0) = true := by simpa using h0
    by_cases h1 : 0 ≤ a
    · have h1b : (decide (a ≥ 0)) = true := by simpa using h1
      by_cases h2 : a < n
      · have h2b : (decide (a < n)) = true := by simpa using h2
        by_cases h3 : 0 ≤ b
        · have h3b : (decide (b ≥ 0)) = true := by simpa using h3
          by_cases h4 : b < n
          · have h4b : (decide (b < n)) = true := by simpa using h4
            have HV := Lib.hid (show ((ck == 0 && decide (0 ≤ a) && decide (a < n)) && (ck == 0 && decide (0 ≤ b) && decide (b < n))) = true by simp [h0, h1, h2, h3, h4])
            go_enter Try.func61, Try.ntmps61
            go_wp2_with (go_at_call 14; refine (HC.out).mono ?_; rintro e w' ⟨rfl, hb⟩)
            go_ret
            exact ⟨ret_bool HV.out.symm, hb⟩
          · have h4b : (decide (b < n)) = false := by simpa using h4
            have HV := Lib.hid (show ((ck == 0 && decide (0 ≤ a) && decide (a < n)) && (ck == 0 && decide (0 ≤ b) && decide (b < n))) = false by simp [h0, h1, h2, h3, h4])
            go_enter Try.func61, Try.ntmps61
            go_wp2_with (go_at_call 14; refine (HC.out).mono ?_; rintro e w' ⟨rfl, hb⟩)
            go_ret
            exact ⟨ret_bool HV.out.symm, hb⟩
        · have h3b : (decide (b ≥ 0)) = false := by simpa using h3
          have HV := Lib.hid (show ((ck == 0 && decide (0 ≤ a) && decide (a < n)) && (ck == 0 && decide (0 ≤ b) && decide (b < n))) = false by simp [h0, h1, h2, h3])
          go_enter Try.func61, Try.ntmps61
          go_wp2_with (go_at_call 14; refine (HC.out).mono ?_; rintro e w' ⟨rfl, hb⟩)
          go_ret
          exact ⟨ret_bool HV.out.symm, hb⟩
      · have h2b : (decide (a < n)) = false := by simpa using h2
        have HV := Lib.hid (show ((ck == 0 && decide (0 ≤ a) && decide (a < n)) && (ck == 0 && decide (0 ≤ b) && decide (b < n))) = false by simp [h0, h1, h2])
        go_enter Try.func61, Try.ntmps61
        go_wp2_with (go_at_call 14; refine (HC.out).mono ?_; rintro e w' ⟨rfl, hb⟩)
        go_ret
        exact ⟨ret_bool HV.out.symm, hb⟩
    · have h1b : (decide (a ≥ 0)) = false := by simpa using h1
      have HV := Lib.hid (show ((ck == 0 && decide (0 ≤ a) && decide (a < n)) && (ck == 0 && decide (0 ≤ b) && decide (b < n))) = false by simp [h0, h1])
      go_enter Try.func61, Try.ntmps61
      go_wp2_with (go_at_call 14; refine (HC.out).mono ?_; rintro e w' ⟨rfl, hb⟩)
      go_ret
      exact ⟨ret_bool HV.out.symm, hb⟩
  · have h0b : (ck == 0) = false := by simpa using h0
    have HV := Lib.hid (show ((ck == 0 && decide (0 ≤ a) && decide (a < n)) && (ck == 0 && decide (0 ≤ b) && decide (b < n))) = false by simp [h0])
    go_enter Try.func61, Try.ntmps61
    go_wp2_with (go_at_call 14; refine (HC.out).mono ?_; rintro e w' ⟨rfl, hb⟩)
    go_ret
    exact ⟨ret_bool HV.out.symm, hb⟩

set_option maxRecDepth 100000 in
set_option maxHeartbeats 4000000 in
theorem rclean_any {w : World} {A : Option Addr} {m c : Nat} {l : List Lk} (hr : Rd lkc 3 w A m l) {n : Int} (hg : GOk n l) (s e : Int) {a b : Int} (ha : 0 ≤ a ∧ a < n) (hb : 0 ≤ b ∧ b < n) (hm : m ≤ 1000) :
    Calls Try.prog 62 #[.int .i64 n, .slice A m c, .int .i64 a, .int .i64 b, .int .i64 s, .int .i64 e] w fun r w' => r = .returned (.bool (cleanV n l s e a b)) ∧ Below w.heap.size w w' := by
  obtain ⟨N, hN⟩ : ∃ N : Nat, n = N := ⟨n.toNat, by omega⟩
  subst hN
  obtain ⟨P, rfl, hP1⟩ := nat_of_lt ha.1 ha.2
  obtain ⟨Q, rfl, hQ1⟩ := nat_of_lt hb.1 hb.2
  have HL := Lib.hid hr
  have HRG := Lib.hid (rightG_in hg ha)
  have HDI := Lib.hid (rdist_any (c := c) hr N P hm)
  have HCV := Lib.hid (show cleanV N l s e P Q = (decide (0 ≤ D l P Q) && !usesG N l P Q s e && !usesG N l P Q e s) from rfl)
  have hP0 : (0 : Int) ≤ P := by omega
  have hQ0 : (0 : Int) ≤ Q := by omega
  clear hr hg ha hb
  go_enter Try.func62, Try.ntmps62
  go_wp2_with fail
  refine (HDI.out).mono ?_
  rintro r w1 hgi
  unfold GivesD at hgi
  rw [if_pos HRG.out, Int.toNat_natCast] at hgi
  obtain ⟨x1, rfl, hrow, hb1⟩ := hgi
  have HW1 := Lib.hid hb1
  have HRW := Lib.hid hrow.rowL
  have HU1 := Lib.hid (ruses_any (c := c) (HL.out.below hb1) N P Q s e hm)
  clear hb1 hrow HDI
  go_wp2_with fail
  refine (HU1.out).mono ?_
  rintro r w2 ⟨rfl, hb2⟩
  have HW2 := Lib.hid (HW1.out.trans (hb2.mono HW1.out.size))
  have HRW2 := Lib.hid (HRW.out.below hb2)
  have HU2 := Lib.hid (ruses_any (c := c) (HL.out.below HW2.out) N P Q e s hm)
  clear hb2 HU1 HRW HW1
  go_wp2_with fail
  refine (HU2.out).mono ?_
  rintro r w3 ⟨rfl, hb3⟩
  have HW3 := Lib.hid (HW2.out.trans (hb3.mono HW2.out.size))
  have q1 := HRW2.out.below hb3 Q (by omega)
  clear hb3 HU2 HRW2 HW2
  generalize D l (P : Int) Q = dq at q1 HCV
  generalize usesG N l P Q s e = u1 at HCV ⊢
  generalize usesG N l P Q e s = u2 at HCV ⊢
  by_cases h0 : dq ≥ 0
  · have d0 : decide (dq ≥ 0) = true := decide_eq_true h0
    have d0' : decide (0 ≤ dq) = true := decide_eq_true h0
    rw [d0', Bool.true_and] at HCV
    clear h0
    cases u1
    · go_wp2_with fail
      go_ret
      exact ⟨ret_bool (by rw [HCV.out]; simp), HW3.out⟩
    · go_wp2_with fail
      go_ret
      exact ⟨ret_bool (by rw [HCV.out]; simp), HW3.out⟩
  · have d0 : decide (dq ≥ 0) = false := decide_eq_false h0
    have d0' : decide (0 ≤ dq) = false := decide_eq_false h0
    rw [d0'] at HCV
    clear h0
    go_wp2_with fail
    go_ret
    exact ⟨ret_bool (by rw [HCV.out]; simp), HW3.out⟩
end Go.Proofs.Ytmdcfiejkbhgpaa
/-
  repair: rows of bools; Bools, each; the reference's Near, Far.
-/
namespace Go.Proofs.Ytmdcfiejkbhgpaa
open Go.RowKit

def boc (x : Bool) : List Value := [.bool x]
theorem boc_len (x : Bool) : (boc x).length = 1 := rfl
theorem boc_one (x : Bool) : ∀ u ∈ boc x, u.oneCell' = true := by
  intro u hu
  simp [boc] at hu
  subst hu
  rfl
/-- v is a row of these bools, from B on -/
def BolsAt (w : World) (B : Nat) (v : Value) (l : List Bool) : Prop := w.ownsRow B 4 1 v l.length (flatE boc l)
theorem bolsAt_nil (w : World) (B : Nat) : BolsAt w B (.slice none 0 0) [] := World.ownsRow_nil _ _ _ _
theorem BolsAt.below {w w' : World} {B : Nat} {v : Value} {l : List Bool} (h : BolsAt w B v l) (hb : Below w.heap.size w w') : BolsAt w' B v l := own_below h hb
theorem BolsAt.rd {w : World} {B : Nat} {v : Value} {l : List Bool} (h : BolsAt w B v l) : ∃ A c, v = .slice A l.length c ∧ Rd boc 1 w A l.length l := by
  obtain ⟨A, c, hv, -, hr⟩ := Rd.of_own boc_len (by decide) (show w.ownsRow B 4 1 v l.length (flatE boc l) from h)
  exact ⟨A, c, hv, hr⟩
theorem bolsAt_app {w0 w w' : World} {v : Value} {l : List Bool} (hb : Below w0.heap.size w0 w) (hown : BolsAt w w0.heap.size v l) (hg : w.grownBy w' v.ownBlock) : Below w0.heap.size w0 w' := hb.grown hg hb.size (fun k hk => (hown.lt k hk).1)
theorem one_bool (w : World) (z : Bool) : ∀ j u, (boc z)[j]? = some u → (w.alloc (.cells #[.bool z] 4)).cell? ((⟨w.heap.size, 0, none⟩ : Addr).add j) = some u := new_cells w (boc z) 4
theorem Try.info_bool : (Try.prog.info? 4).map (fun i => (i.zero, i.size, i.bytes)) = some (some (.bool false), 1, 1) := by kernel_rfl
/-- a bool put behind a row of the call's own -/
theorem app_bool {ops : Array Oper} {rest : List Oper} {o : Oper} {a : Act} {w : World} {Q : Exit → Act → World → Prop} (hgd : o.guard = none) (s x : Operand)
    (ho : o.op = .call { callee := .builtin .append, args := #[s, x], argTypes := #[44, 44] })
    (B : Nat) (v : Value) (l : List Bool) (z : Bool) (hs : a.eval s = v) (hown : BolsAt w B v l) (b : Nat) (hx : a.eval x = .slice (some ⟨b, 0, none⟩) 1 1) (hr : ∀ j u, (boc z)[j]? = some u → w.cell? ((⟨b, 0, none⟩ : Addr).add j) = some u)
    (hsz : l.length ≤ 1000000) (hB : B ≤ w.heap.size)
    (h : ∀ v' w', BolsAt w' B v' (l ++ [z]) → w.grownBy w' v.ownBlock → wpList Try.prog ops Q rest (a.put o.dst v') w') : wpList Try.prog ops Q (o :: rest) a w := by
  obtain ⟨i0, hi, hz0, hz1, hz2⟩ := info_parts Try.info_bool
  refine wpList_append_own_at w hgd s x 44 ho B 4 i0 (.bool false) 1 1 Try.underlying44 hi hz0 hz1 hz2 rfl (by decide) v _ _ hs hown ⟨b, 0, none⟩ 1 1 (boc z) hx rfl hr (boc_one z) (by unfold maxLen; omega) (by omega) hB ?_
  intro v' w' hown' hg _ _
  refine h v' w' ?_ hg
  unfold BolsAt
  rw [flatE_append, List.length_append]
  have e : flatE boc [z] = boc z := by simp [flatE]
  rw [e]
  exact hown'

set_option maxRecDepth 100000 in
set_option maxHeartbeats 4000000 in
theorem rbools_any {w : World} {A E : Option Addr} {m k c d : Nat} {a b : List Bool} (ha : Rd boc 1 w A m a) (hb : Rd boc 1 w E k b) (hm : m ≤ 1000000) (hk : k ≤ 1000000) :
    Calls Try.prog 30 #[.slice A m c, .slice E k d] w fun e w' => e = .returned (.bool (decide (a = b))) ∧ Below w.heap.size w w' := by
  have HA := Lib.hid ha
  have HE := Lib.hid hb
  have hbw : Below w.heap.size w w := Below.refl _ _
  have hla := ha.1
  have hlb := hb.1
  clear ha hb
  by_cases hmk : m = k
  · subst hmk
    have HL := Lib.hid (And.intro hla hlb)
    clear hla hlb
    go_enter Try.func30, Try.ntmps30
    go_wp2_with fail
    go_loopw [5] (fun v wr => ∃ i : Nat, i ≤ m ∧ v = .int .i64 i ∧ Alike a b i ∧ Below w.heap.size w wr) (fun v _ => m - (intOf v).toNat)
    case atStart => exact ⟨0, Nat.zero_le _, rfl, alike_zero _ _, hbw⟩
    case round =>
      obtain ⟨i, hi, rfl, hal, hbr⟩ := hrel
      have HAL := Lib.hid hal
      have HB := Lib.hid hbr
      clear hal hbr
      have hi0 : (0 : Int) ≤ i := by omega
      by_cases hlt : i < m
      · obtain ⟨x, b1, off1, hx, rfl, hc1⟩ := (HA.out.below HB.out).at_ hlt
        obtain ⟨y, b2, off2, hy, rfl, hc2⟩ := (HE.out.below HB.out).at_ hlt
        have hi1 : (i : Int) < m := by omega
        have c1 := hc1 0 _ rfl
        have c2 := hc2 0 _ rfl
        rw [Nat.add_zero] at c1 c2
        simp only [Nat.mul_one] at c1 c2
        have HX := Lib.hid hx
        have HY := Lib.hid hy
        clear hc1 hc2 hx hy
        by_cases hxy : x = y
        · have HN := Lib.hid (alike_succ HAL.out HX.out (by rw [hxy]; exact HY.out))
          have HB2 := Lib.hid (fun q => HB.out.trans ((below_dN (w := wr) q).mono HB.out.size))
          clear HX HY HAL
          subst hxy
          cases x <;> (
            go_wp2_with fail
            go_quiet (fail)
            go_wp2_with fail
            go_roundw
            case rel => exact ⟨i + 1, by omega, by go_num, HN.out, HB2.out _⟩
            case measure => simp [intOf]; omega)
        · have HN := Lib.hid (show decide (a = b) = false by simpa using not_alike HX.out HY.out hxy)
          have HB2 := Lib.hid (fun q => HB.out.trans ((below_dN (w := wr) q).mono HB.out.size))
          clear HX HY HAL
          cases x <;> cases y <;> first
            | (exact absurd rfl hxy)
            | (clear hxy
               go_wp2_with fail
               go_quiet (fail)
               go_wp2_with fail
               go_ret
               exact ⟨ret_bool HN.out.symm, HB2.out _⟩)
      · have hge : ¬ (i : Int) < m := by omega
        have HN := Lib.hid (show decide (a = b) = true by simpa using alike_all (show Alike a b m by rw [show m = i by omega]; exact HAL.out) HL.out.1 HL.out.2)
        clear HAL hi hlt hi0
        go_wp2_with fail
        go_ret
        exact ⟨ret_bool HN.out.symm, HB.out⟩
  · have HN := Lib.hid (show decide (a = b) = false by simp; intro h; rw [h] at hla; omega)
    have d1 : ((m : Int) == (k : Int)) = false := by simp; omega
    clear hla hlb hmk
    go_enter Try.func30, Try.ntmps30
    go_wp2_with fail
    go_ret
    exact ⟨ret_bool HN.out.symm, hbw⟩

/-- the first k of them -/
def preB (p : Int → Bool) (k : Nat) : List Bool := (List.range k).map fun i : Nat => p (i : Int)
theorem preB_len (p : Int → Bool) (k : Nat) : (preB p k).length = k := by simp [preB]
theorem preB_succ (p : Int → Bool) (k : Nat) : preB p (k + 1) = preB p k ++ [p (k : Int)] := by simp [preB, List.range_succ]
theorem preB_all (p : Int → Bool) (N : Nat) : preB p N = (nodes (N : Int)).map p := by
  unfold preB nodes
  simp [List.map_map, Function.comp_def]

set_option maxRecDepth 100000 in
set_option maxHeartbeats 4000000 in
/-- each: a function value asked of all nodes -/
theorem each_any {w : World} {N : Nat} {A : Option Addr} {m c : Nat} {s e : Int} (hN : N ≤ 64) (g : Nat) (cap : Array Value) (p : Int → Bool)
    (eg : ∀ args w, (callFunc g args).run Try.prog w = .ok (.enter g args) w)
    (hstep : ∀ (x : Nat) W, x < N → Below w.heap.size w W → Calls Try.prog g (#[.int .i64 x] ++ cap) W fun e W' => e = .returned (.bool (p x)) ∧ Below W.heap.size W W') :
    Calls Try.prog 58 #[.agg #[.int .i64 N, .slice A m c, .int .i64 s, .int .i64 e], .func (.func g) #[] cap] w fun r w' => ∃ v, r = .returned v ∧ BolsAt w' w.heap.size v (preB p N) ∧ Below w.heap.size w w' := by
  have hal := below_al1 w (.cells #[.int .i64 N, .slice A m c, .int .i64 s, .int .i64 e] 74)
  have HBV := Lib.hid (show BoxV (w.alloc (.cells #[.int .i64 N, .slice A m c, .int .i64 s, .int .i64 e] 74)) w.heap.size N A m c s e from heap_alloc_new _ _)
  have HAL := Lib.hid hal
  have HS := Lib.hid hstep
  have HG := Lib.hid eg
  clear hstep hal
  go_enter Try.func58, Try.ntmps58
  obtain ⟨p0, p1, p2, p3, p4⟩ := HBV.out.cells
  go_wp2_with fail
  clear p0 p1 p2 p3 p4
  go_loopw [5, 9] (fun o v wr => ∃ k : Nat, k ≤ N ∧ v = .int .i64 k ∧ BolsAt wr w.heap.size o (preB p k) ∧ Below w.heap.size w wr) (fun _ v _ => N - (intOf v).toNat)
  case atStart => exact ⟨0, Nat.zero_le _, rfl, bolsAt_nil _ _, HAL.out⟩
  case round =>
    obtain ⟨k, hk, rfl, hown, hbr⟩ := hrel
    have HO := Lib.hid hown
    have HB := Lib.hid hbr
    clear hown hbr
    have hk0 : (0 : Int) ≤ k := by omega
    by_cases hlt : k < N
    · have hk1 : (k : Int) < N := by omega
      have HC := Lib.hid (HS.out k wr hlt HB.out)
      have HP := Lib.hid (preB_succ p k)
      have hlen : (preB p k).length ≤ 1000000 := by rw [preB_len]; omega
      generalize p (k : Int) = q at HC HP
      go_wp2_with (go_at_call 0; fail)
      refine (HC.out).mono ?_
      rintro r w1 ⟨rfl, hb1⟩
      have HO1 := Lib.hid (HO.out.below hb1)
      have HB1 := Lib.hid (HB.out.trans (hb1.mono HB.out.size))
      clear hb1
      go_wp2_with (at_builtin; refine app_bool rfl (.tmp 12) (.tmp 16) rfl w.heap.size _ _ q rfl (HO1.out.below (below_al1 _ _)) w1.heap.size rfl (one_bool _ _) hlen (HB1.out.alloc HB1.out.size _).size ?_; intro v2 w2 hown2 hg2; have HO2 := Lib.hid hown2; have HB2 := Lib.hid (bolsAt_app (HB1.out.alloc HB1.out.size _) (HO1.out.below (below_al1 _ _)) hg2); clear hown2 hg2)
      go_roundw
      case rel => exact ⟨k + 1, by omega, by go_num, by rw [HP.out]; exact HO2.out, HB2.out⟩
      case measure => simp [intOf]; omega
    · obtain rfl : k = N := by omega
      have hge : ¬ (k : Int) < k := by omega
      go_wp2_with fail
      go_ret
      exact ⟨_, rfl, HO.out, HB.out⟩
end Go.Proofs.Ytmdcfiejkbhgpaa
/-
  repair.Near, Far; what they, and After, give. (Printed by gennear.py.)
-/
namespace Go.Proofs.Ytmdcfiejkbhgpaa
open Go.RowKit

noncomputable def nearV (n : Int) (l : List Lk) (s e : Int) : List Bool := if (rightG n l s && rightG n l e) = true then (nodes n).map (cleanV n l s e s) else []
noncomputable def farV (n : Int) (l : List Lk) (s e d : Int) : List Bool := if (rightG n l d && rightG n l s && rightG n l e) = true then (nodes n).map (fun x => cleanV n l s e x d) else []
noncomputable def afterV (n : Int) (l : List Lk) (s e d : Int) : List Int := if (rightG n l s && rightG n l e) = true then pathG n (withoutG l s e) s d else []
theorem rightV_three {n : Int} {l : List Lk} {s t a : Int} : rightV n l [s, t, a] = (rightG n l s && rightG n l t && rightG n l a) := by
  rw [Bool.eq_iff_iff, rightV_ok]
  simp only [Bool.and_eq_true, rightG_ok]
  simp
  constructor
  · rintro ⟨h, h1, h2, h3⟩; exact ⟨⟨⟨h, h1⟩, h, h2⟩, h, h3⟩
  · rintro ⟨⟨⟨h, h1⟩, _, h2⟩, _, h3⟩; exact ⟨h, h1, h2, h3⟩

set_option maxRecDepth 100000 in
set_option maxHeartbeats 4000000 in
theorem near1_any {w : World} {A : Option Addr} {m c V P : Nat} {l : List Lk} (hr : Rd lkc 3 w A m l) {n : Int} (hg : GOk n l) {s e z : Int} {x : Int} (hx : 0 ≤ x ∧ x < n) (hz : 0 ≤ z ∧ z < n) (hm : m ≤ 1000) (hv : BoxV w V n A m c s e) (hp : w.cell? ⟨P, 0, none⟩ = some (.int .i64 z)) :
    Calls Try.prog 59 (#[.int .i64 x] ++ #[.pointer (some ⟨V, 0, none⟩), .pointer (some ⟨P, 0, none⟩)]) w fun r w' => r = .returned (.bool (cleanV n l s e z x)) ∧ Below w.heap.size w w' := by
  have HC := Lib.hid (clean_any (c := c) hr hg s e hz hx hm)
  obtain ⟨p0, p1, p2, p3, p4⟩ := hv.cells
  show Calls Try.prog 59 #[.int .i64 x, .pointer (some ⟨V, 0, none⟩), .pointer (some ⟨P, 0, none⟩)] w _
  clear hr hg hx hz hv
  go_enter Try.func59, Try.ntmps59
  go_wp2_with fail
  refine (HC.out).mono ?_
  rintro r w1 ⟨rfl, hb⟩
  go_wp2_with fail
  go_ret
  exact ⟨rfl, hb⟩

set_option maxRecDepth 100000 in
set_option maxHeartbeats 4000000 in
theorem near_any {w : World} {A : Option Addr} {m c : Nat} {l : List Lk} (hr : Rd lkc 3 w A m l) (n s e : Int) (hm : m ≤ 1000) :
    Calls Try.prog 31 #[.int .i64 n, .slice A m c, .int .i64 s, .int .i64 e] w fun r w' => ∃ v, r = .returned v ∧ BolsAt w' w.heap.size v (nearV n l s e) ∧ Below w.heap.size w w' := by
  have hal : Below w.heap.size w ((w.alloc (.cells #[.int .i64 s] 3)).alloc (.cells #[.int .i64 n, .slice A m c, .int .i64 s, .int .i64 e] 74)) := by go_grown
  have hsz : ((w.alloc (.cells #[.int .i64 s] 3)).alloc (.cells #[.int .i64 n, .slice A m c, .int .i64 s, .int .i64 e] 74)).heap.size = w.heap.size + 2 := by simp
  have hsz3 : w.heap.size + 2 ≤ ((w.alloc (.cells #[.int .i64 s] 3)).alloc (.cells #[.int .i64 n, .slice A m c, .int .i64 s, .int .i64 e] 74)).heap.size := by simp
  have hv0 : IntsAt ((w.alloc (.cells #[.int .i64 s] 3)).alloc (.cells #[.int .i64 n, .slice A m c, .int .i64 s, .int .i64 e] 74)) (w.heap.size + 2) (.slice none 0 0) [] := by exact intsAt_nil _ _
  have HRI := Lib.hid (vright_any (c := c) (hr.below hal) n s e hm hv0 (by simp) hsz3)
  have hbv : BoxV ((w.alloc (.cells #[.int .i64 s] 3)).alloc (.cells #[.int .i64 n, .slice A m c, .int .i64 s, .int .i64 e] 74)) (w.heap.size + 1) n A m c s e := by
    have h1 := heap_alloc_new (w.alloc (.cells #[.int .i64 s] 3)) (.cells #[.int .i64 n, .slice A m c, .int .i64 s, .int .i64 e] 74)
    rw [show (w.alloc (.cells #[.int .i64 s] 3)).heap.size = w.heap.size + 1 by simp] at h1
    exact h1
  have hbs : ((w.alloc (.cells #[.int .i64 s] 3)).alloc (.cells #[.int .i64 n, .slice A m c, .int .i64 s, .int .i64 e] 74)).cell? ⟨w.heap.size, 0, none⟩ = some (.int .i64 s) := by simp
  have hup : Below ((w.alloc (.cells #[.int .i64 s] 3)).alloc (.cells #[.int .i64 n, .slice A m c, .int .i64 s, .int .i64 e] 74)).heap.size ((w.alloc (.cells #[.int .i64 s] 3)).alloc (.cells #[.int .i64 n, .slice A m c, .int .i64 s, .int .i64 e] 74)) ((w.alloc (.cells #[.int .i64 s] 3)).alloc (.cells #[.int .i64 n, .slice A m c, .int .i64 s, .int .i64 e] 74)) := Below.refl _ _
  have HBV := Lib.hid (hbv.below hup)
  have HBS := Lib.hid ((hup.cell (p := ⟨w.heap.size, 0, none⟩) (by simp only; omega)).trans hbs)
  rw [show ([] ++ [s, e] : List Int) = [s, e] from rfl, rightV_two] at HRI
  have HALB := Lib.hid hal
  have HL0 := Lib.hid hr
  clear hr hbv hbs hup hv0
  cases hg : (rightG n l s && rightG n l e) with
  | false =>
    have HE := Lib.hid (show nearV n l s e = [] by unfold nearV; rw [if_neg (by rw [hg]; simp)])
    rw [hg] at HRI
    clear hg hsz
    go_enter Try.func31, Try.ntmps31
    go_wp2_with fail
    refine (HRI.out).mono ?_
    rintro r w1 ⟨rfl, hb1⟩
    have HB1 := Lib.hid (hal.trans (hb1.mono (by omega)))
    clear hb1
    go_wp2_with fail
    go_ret
    exact ⟨_, rfl, by rw [HE.out]; exact bolsAt_nil _ _, HB1.out⟩
  | true =>
    have HV := Lib.hid (show nearV n l s e = (nodes n).map (cleanV n l s e s) by unfold nearV; rw [if_pos hg])
    rw [hg] at HRI
    simp only [Bool.and_eq_true] at hg
    obtain ⟨hgk, hz0, hz1⟩ := rightG_ok.1 hg.1
    have HGK := Lib.hid hgk
    have hn64 := hgk.n64
    obtain ⟨N, hN⟩ : ∃ N : Nat, n = N := ⟨n.toNat, by omega⟩
    subst hN
    have HZ := Lib.hid (And.intro hz0 hz1)
    clear hg hgk hz0 hz1
    go_enter Try.func31, Try.ntmps31
    go_wp2_with fail
    refine (HRI.out).mono ?_
    rintro r w1 ⟨rfl, hb1⟩
    have hb1' : Below w.heap.size w w1 := hal.trans (hb1.mono (by omega))
    have hlt : w.heap.size + 2 ≤ w1.heap.size := Nat.le_trans hsz3 hb1.size
    have hbv1 : BoxV w1 (w.heap.size + 1) N A m c s e := (hb1.block (w.heap.size + 1) (by omega)).trans HBV.out
    have hbs1 : w1.cell? ⟨w.heap.size, 0, none⟩ = some (.int .i64 s) := (hb1.cell (p := ⟨w.heap.size, 0, none⟩) (by simp only; omega)).trans HBS.out
    have hl1 : Rd lkc 3 w1 A m l := HL0.out.below hb1'
    have HEA := Lib.hid (each_any (w := w1) (A := A) (m := m) (c := c) (s := s) (e := e) (N := N) (by omega) 59 #[.pointer (some ⟨w.heap.size + 1, 0, none⟩), .pointer (some ⟨w.heap.size, 0, none⟩)] (fun x => cleanV N l s e s x)
      (enters_any Try.func59 (by kernel_rfl) rfl) (fun x W hx hb => near1_any (c := c) (hl1.below hb) HGK.out ⟨by omega, by omega⟩ HZ.out hm (hbv1.below hb) ((hb.cell (p := ⟨w.heap.size, 0, none⟩) (by simp only; omega)).trans hbs1)))
    rw [preB_all, ← HV.out] at HEA
    have HB1 := Lib.hid hb1'
    obtain ⟨p0, p1, p2, p3, p4⟩ := hbv1.cells
    clear hb1 hl1 hbv1 hb1' hsz HRI
    go_wp2_with fail
    refine (HEA.out).mono ?_
    rintro r w2 ⟨v, rfl, hv, hb2⟩
    have HR := Lib.hid (own_mono hv HB1.out.size)
    have HB2 := Lib.hid (HB1.out.trans (hb2.mono HB1.out.size))
    clear hv hb2
    go_wp2_with fail
    go_ret
    exact ⟨v, rfl, HR.out, HB2.out⟩

set_option maxRecDepth 100000 in
set_option maxHeartbeats 4000000 in
theorem far1_any {w : World} {A : Option Addr} {m c V P : Nat} {l : List Lk} (hr : Rd lkc 3 w A m l) {n : Int} (hg : GOk n l) {s e z : Int} {x : Int} (hx : 0 ≤ x ∧ x < n) (hz : 0 ≤ z ∧ z < n) (hm : m ≤ 1000) (hv : BoxV w V n A m c s e) (hp : w.cell? ⟨P, 0, none⟩ = some (.int .i64 z)) :
    Calls Try.prog 63 (#[.int .i64 x] ++ #[.pointer (some ⟨V, 0, none⟩), .pointer (some ⟨P, 0, none⟩)]) w fun r w' => r = .returned (.bool (cleanV n l s e x z)) ∧ Below w.heap.size w w' := by
  have HC := Lib.hid (clean_any (c := c) hr hg s e hx hz hm)
  obtain ⟨p0, p1, p2, p3, p4⟩ := hv.cells
  show Calls Try.prog 63 #[.int .i64 x, .pointer (some ⟨V, 0, none⟩), .pointer (some ⟨P, 0, none⟩)] w _
  clear hr hg hx hz hv
  go_enter Try.func63, Try.ntmps63
  go_wp2_with fail
  refine (HC.out).mono ?_
  rintro r w1 ⟨rfl, hb⟩
  go_wp2_with fail
  go_ret
  exact ⟨rfl, hb⟩

set_option maxRecDepth 100000 in
set_option maxHeartbeats 4000000 in
theorem far_any {w : World} {A : Option Addr} {m c : Nat} {l : List Lk} (hr : Rd lkc 3 w A m l) (n s e : Int) (d : Int) (hm : m ≤ 1000) :
    Calls Try.prog 33 #[.int .i64 n, .slice A m c, .int .i64 s, .int .i64 e, .int .i64 d] w fun r w' => ∃ v, r = .returned v ∧ BolsAt w' w.heap.size v (farV n l s e d) ∧ Below w.heap.size w w' := by
  have hal : Below w.heap.size w (((w.alloc (.cells #[.int .i64 d] 3)).alloc (.cells #[.int .i64 n, .slice A m c, .int .i64 s, .int .i64 e] 74)).alloc (.cells #[.int .i64 d] 3)) := by go_grown
  have hsz : ((w.alloc (.cells #[.int .i64 d] 3)).alloc (.cells #[.int .i64 n, .slice A m c, .int .i64 s, .int .i64 e] 74)).heap.size = w.heap.size + 2 := by simp
  have hsz3 : w.heap.size + 2 ≤ (((w.alloc (.cells #[.int .i64 d] 3)).alloc (.cells #[.int .i64 n, .slice A m c, .int .i64 s, .int .i64 e] 74)).alloc (.cells #[.int .i64 d] 3)).heap.size := by simp
  have hv0 : IntsAt (((w.alloc (.cells #[.int .i64 d] 3)).alloc (.cells #[.int .i64 n, .slice A m c, .int .i64 s, .int .i64 e] 74)).alloc (.cells #[.int .i64 d] 3)) (w.heap.size + 2) (.slice (some ⟨w.heap.size + 2, 0, none⟩) 1 1) [d] := by have h1 := intsAt_one (w := ((w.alloc (.cells #[.int .i64 d] 3)).alloc (.cells #[.int .i64 n, .slice A m c, .int .i64 s, .int .i64 e] 74))) (B := w.heap.size + 2) (by rw [hsz]; exact Nat.le_refl _) d; rwa [hsz] at h1
  have HRI := Lib.hid (vright_any (c := c) (hr.below hal) n s e hm hv0 (by simp) hsz3)
  have hbv : BoxV ((w.alloc (.cells #[.int .i64 d] 3)).alloc (.cells #[.int .i64 n, .slice A m c, .int .i64 s, .int .i64 e] 74)) (w.heap.size + 1) n A m c s e := by
    have h1 := heap_alloc_new (w.alloc (.cells #[.int .i64 d] 3)) (.cells #[.int .i64 n, .slice A m c, .int .i64 s, .int .i64 e] 74)
    rw [show (w.alloc (.cells #[.int .i64 d] 3)).heap.size = w.heap.size + 1 by simp] at h1
    exact h1
  have hbs : ((w.alloc (.cells #[.int .i64 d] 3)).alloc (.cells #[.int .i64 n, .slice A m c, .int .i64 s, .int .i64 e] 74)).cell? ⟨w.heap.size, 0, none⟩ = some (.int .i64 d) := by simp
  have hup : Below ((w.alloc (.cells #[.int .i64 d] 3)).alloc (.cells #[.int .i64 n, .slice A m c, .int .i64 s, .int .i64 e] 74)).heap.size ((w.alloc (.cells #[.int .i64 d] 3)).alloc (.cells #[.int .i64 n, .slice A m c, .int .i64 s, .int .i64 e] 74)) (((w.alloc (.cells #[.int .i64 d] 3)).alloc (.cells #[.int .i64 n, .slice A m c, .int .i64 s, .int .i64 e] 74)).alloc (.cells #[.int .i64 d] 3)) := below_al1 _ _
  have HBV := Lib.hid (hbv.below hup)
  have HBS := Lib.hid ((hup.cell (p := ⟨w.heap.size, 0, none⟩) (by simp only; omega)).trans hbs)
  rw [show ([d] ++ [s, e] : List Int) = [d, s, e] from rfl, rightV_three] at HRI
  have HALB := Lib.hid hal
  have HL0 := Lib.hid hr
  clear hr hbv hbs hup hv0
  cases hg : (rightG n l d && rightG n l s && rightG n l e) with
  | false =>
    have HE := Lib.hid (show farV n l s e d = [] by unfold farV; rw [if_neg (by rw [hg]; simp)])
    rw [hg] at HRI
    clear hg hsz
    go_enter Try.func33, Try.ntmps33
    go_wp2_with fail
    refine (HRI.out).mono ?_
    rintro r w1 ⟨rfl, hb1⟩
    have HB1 := Lib.hid (hal.trans (hb1.mono (by omega)))
    clear hb1
    go_wp2_with fail
    go_ret
    exact ⟨_, rfl, by rw [HE.out]; exact bolsAt_nil _ _, HB1.out⟩
  | true =>
    have HV := Lib.hid (show farV n l s e d = (nodes n).map (fun x => cleanV n l s e x d) by unfold farV; rw [if_pos hg])
    rw [hg] at HRI
    simp only [Bool.and_eq_true] at hg
    obtain ⟨hgk, hz0, hz1⟩ := rightG_ok.1 hg.1.1
    have HGK := Lib.hid hgk
    have hn64 := hgk.n64
    obtain ⟨N, hN⟩ : ∃ N : Nat, n = N := ⟨n.toNat, by omega⟩
    subst hN
    have HZ := Lib.hid (And.intro hz0 hz1)
    clear hg hgk hz0 hz1
    go_enter Try.func33, Try.ntmps33
    go_wp2_with fail
    refine (HRI.out).mono ?_
    rintro r w1 ⟨rfl, hb1⟩
    have hb1' : Below w.heap.size w w1 := hal.trans (hb1.mono (by omega))
    have hlt : w.heap.size + 2 ≤ w1.heap.size := Nat.le_trans hsz3 hb1.size
    have hbv1 : BoxV w1 (w.heap.size + 1) N A m c s e := (hb1.block (w.heap.size + 1) (by omega)).trans HBV.out
    have hbs1 : w1.cell? ⟨w.heap.size, 0, none⟩ = some (.int .i64 d) := (hb1.cell (p := ⟨w.heap.size, 0, none⟩) (by simp only; omega)).trans HBS.out
    have hl1 : Rd lkc 3 w1 A m l := HL0.out.below hb1'
    have HEA := Lib.hid (each_any (w := w1) (A := A) (m := m) (c := c) (s := s) (e := e) (N := N) (by omega) 63 #[.pointer (some ⟨w.heap.size + 1, 0, none⟩), .pointer (some ⟨w.heap.size, 0, none⟩)] (fun x => cleanV N l s e x d)
      (enters_any Try.func63 (by kernel_rfl) rfl) (fun x W hx hb => far1_any (c := c) (hl1.below hb) HGK.out ⟨by omega, by omega⟩ HZ.out hm (hbv1.below hb) ((hb.cell (p := ⟨w.heap.size, 0, none⟩) (by simp only; omega)).trans hbs1)))
    rw [preB_all, ← HV.out] at HEA
    have HB1 := Lib.hid hb1'
    obtain ⟨p0, p1, p2, p3, p4⟩ := hbv1.cells
    clear hb1 hl1 hbv1 hb1' hsz HRI
    go_wp2_with fail
    refine (HEA.out).mono ?_
    rintro r w2 ⟨v, rfl, hv, hb2⟩
    have HR := Lib.hid (own_mono hv HB1.out.size)
    have HB2 := Lib.hid (HB1.out.trans (hb2.mono HB1.out.size))
    clear hv hb2
    go_wp2_with fail
    go_ret
    exact ⟨v, rfl, HR.out, HB2.out⟩
end Go.Proofs.Ytmdcfiejkbhgpaa
/-
  The reference's Near, Far; After, both.
-/
namespace Go.Proofs.Ytmdcfiejkbhgpaa
open Go.RowKit

set_option maxRecDepth 100000 in
set_option maxHeartbeats 4000000 in
theorem rnear_any {w : World} {A : Option Addr} {m c : Nat} {l : List Lk} (hr : Rd lkc 3 w A m l) (n s e : Int) (hm : m ≤ 1000) :
    Calls Try.prog 32 #[.int .i64 n, .slice A m c, .int .i64 s, .int .i64 e] w fun r w' => ∃ v, r = .returned v ∧ BolsAt w' w.heap.size v (nearV n l s e) ∧ Below w.heap.size w w' := by
  have HRI := Lib.hid (rright2_any (c := c) hr n s e hm)
  have HL := Lib.hid hr
  clear hr
  cases hg : (rightG n l s && rightG n l e) with
  | false =>
    have HE := Lib.hid (show nearV n l s e = [] by unfold nearV; rw [if_neg (by rw [hg]; simp)])
    rw [hg] at HRI
    clear hg
    go_enter Try.func32, Try.ntmps32
    go_wp2_with fail
    refine (HRI.out).mono ?_
    rintro r w1 ⟨rfl, hb1⟩
    go_wp2_with fail
    go_ret
    exact ⟨_, rfl, by rw [HE.out]; exact bolsAt_nil _ _, hb1⟩
  | true =>
    have HV := Lib.hid (show nearV n l s e = (nodes n).map (cleanV n l s e s) by unfold nearV; rw [if_pos hg])
    rw [hg] at HRI
    rw [Bool.and_eq_true] at hg
    obtain ⟨hgk, hz0, hz1⟩ := rightG_ok.1 hg.1
    have hn64 := hgk.n64
    obtain ⟨N, hN⟩ : ∃ N : Nat, n = N := ⟨n.toNat, by omega⟩
    subst hN
    rw [← preB_all] at HV
    have HCL := Lib.hid (fun (k : Nat) (hk : k < N) w' (hb : Below w.heap.size w w') => rclean_any (c := c) (HL.out.below hb) hgk s e (a := s) (b := (k : Int)) ⟨hz0, hz1⟩ ⟨by omega, by omega⟩ hm)
    clear hg hgk hz0 hz1
    go_enter Try.func32, Try.ntmps32
    go_wp2_with fail
    refine (HRI.out).mono ?_
    rintro r w1 ⟨rfl, hb1⟩
    have HB1 := Lib.hid hb1
    clear hb1 HRI
    go_wp2_with fail
    go_loopw [10, 11] (fun o v wr => ∃ k : Nat, k ≤ N ∧ v = .int .i64 k ∧ BolsAt wr w.heap.size o (preB (cleanV N l s e s) k) ∧ Below w.heap.size w wr) (fun _ v _ => N - (intOf v).toNat)
    case atStart => exact ⟨0, Nat.zero_le _, rfl, bolsAt_nil _ _, HB1.out⟩
    case round =>
      obtain ⟨k, hk, rfl, hown, hbr⟩ := hrel
      have HO := Lib.hid hown
      have HB := Lib.hid hbr
      clear hown hbr
      have hk0 : (0 : Int) ≤ k := by omega
      by_cases hlt : k < N
      · have hk1 : (k : Int) < N := by omega
        have HC := Lib.hid (HCL.out k hlt wr HB.out)
        have HP := Lib.hid (preB_succ (cleanV N l s e s) k)
        have hlen : (preB (cleanV N l s e s) k).length ≤ 1000000 := by rw [preB_len]; omega
        generalize cleanV N l s e s (k : Int) = q at HC HP
        go_wp2_with fail
        refine (HC.out).mono ?_
        rintro r w2 ⟨rfl, hb2⟩
        have HO1 := Lib.hid (HO.out.below hb2)
        have HB2 := Lib.hid (HB.out.trans (hb2.mono HB.out.size))
        clear hb2
        go_wp2_with (at_builtin; refine app_bool rfl (.tmp 24) (.tmp 32) rfl w.heap.size _ _ q rfl (HO1.out.below (below_al1 _ _)) w2.heap.size rfl (one_bool _ _) hlen (HB2.out.alloc HB2.out.size _).size ?_; intro v2 w3 hown2 hg2; have HO2 := Lib.hid hown2; have HB3 := Lib.hid (bolsAt_app (HB2.out.alloc HB2.out.size _) (HO1.out.below (below_al1 _ _)) hg2); clear hown2 hg2)
        go_roundw
        case rel => exact ⟨k + 1, by omega, by go_num, by rw [HP.out]; exact HO2.out, HB3.out⟩
        case measure => simp [intOf]; omega
      · obtain rfl : k = N := by omega
        have hge : ¬ (k : Int) < k := by omega
        go_wp2_with fail
        go_ret
        exact ⟨_, rfl, by rw [HV.out]; exact HO.out, HB.out⟩

theorem rG_d {n : Int} {l : List Lk} {s e d : Int} : (rightG n l d && rightG n l s && rightG n l e) = ((rightG n l s && rightG n l e) && (decide (0 ≤ d) && decide (d < n))) := by
  rw [rightG_def, rightG_def, rightG_def]
  cases (chkG n l == 0) <;> cases decide (0 ≤ d) <;> cases decide (d < n) <;> simp

set_option maxRecDepth 100000 in
set_option maxHeartbeats 4000000 in
theorem rfar_any {w : World} {A : Option Addr} {m c : Nat} {l : List Lk} (hr : Rd lkc 3 w A m l) (n s e d : Int) (hm : m ≤ 1000) :
    Calls Try.prog 34 #[.int .i64 n, .slice A m c, .int .i64 s, .int .i64 e, .int .i64 d] w fun r w' => ∃ v, r = .returned v ∧ BolsAt w' w.heap.size v (farV n l s e d) ∧ Below w.heap.size w w' := by
  have HRI := Lib.hid (rright2_any (c := c) hr n s e hm)
  have HL := Lib.hid hr
  clear hr
  cases hg : (rightG n l s && rightG n l e) with
  | false =>
    have HE := Lib.hid (show farV n l s e d = [] by unfold farV; rw [rG_d, hg, if_neg (by simp)])
    rw [hg] at HRI
    clear hg
    go_enter Try.func34, Try.ntmps34
    go_wp2_with fail
    refine (HRI.out).mono ?_
    rintro r w1 ⟨rfl, hb1⟩
    go_wp2_with fail
    go_ret
    exact ⟨_, rfl, by rw [HE.out]; exact bolsAt_nil _ _, hb1⟩
  | true =>
    rw [hg] at HRI
    by_cases h0 : d < 0
    · have d0 : decide (d < 0) = true := decide_eq_true h0
      have HE := Lib.hid (show farV n l s e d = [] by unfold farV; rw [rG_d, decide_eq_false (show ¬ 0 ≤ d by omega), if_neg (by simp)])
      clear hg h0
      go_enter Try.func34, Try.ntmps34
      go_wp2_with fail
      refine (HRI.out).mono ?_
      rintro r w1 ⟨rfl, hb1⟩
      go_wp2_with fail
      go_ret
      exact ⟨_, rfl, by rw [HE.out]; exact bolsAt_nil _ _, hb1⟩
    · have d0 : decide (d < 0) = false := decide_eq_false h0
      by_cases h1 : d ≥ n
      · have d1 : decide (d ≥ n) = true := decide_eq_true h1
        have HE := Lib.hid (show farV n l s e d = [] by unfold farV; rw [rG_d, decide_eq_false (show ¬ d < n by omega), if_neg (by simp)])
        clear hg h0 h1
        go_enter Try.func34, Try.ntmps34
        go_wp2_with fail
        refine (HRI.out).mono ?_
        rintro r w1 ⟨rfl, hb1⟩
        go_wp2_with fail
        go_ret
        exact ⟨_, rfl, by rw [HE.out]; exact bolsAt_nil _ _, hb1⟩
      · have d1 : decide (d ≥ n) = false := decide_eq_false h1
        have HV := Lib.hid (show farV n l s e d = (nodes n).map (fun x => cleanV n l s e x d) by unfold farV; rw [rG_d, hg, decide_eq_true (show 0 ≤ d by omega), decide_eq_true (show d < n by omega)]; rfl)
        rw [Bool.and_eq_true] at hg
        obtain ⟨hgk, hz0, hz1⟩ := rightG_ok.1 hg.1
        have hn64 := hgk.n64
        obtain ⟨N, hN⟩ : ∃ N : Nat, n = N := ⟨n.toNat, by omega⟩
        subst hN
        rw [← preB_all] at HV
        have HCL := Lib.hid (fun (k : Nat) (hk : k < N) w' (hb : Below w.heap.size w w') => rclean_any (c := c) (HL.out.below hb) hgk s e (a := (k : Int)) (b := d) ⟨by omega, by omega⟩ ⟨by omega, by omega⟩ hm)
        clear hg hgk hz0 hz1 h0 h1
        go_enter Try.func34, Try.ntmps34
        go_wp2_with fail
        refine (HRI.out).mono ?_
        rintro r w1 ⟨rfl, hb1⟩
        have HB1 := Lib.hid hb1
        clear hb1 HRI
        go_wp2_with fail
        go_loopw [12, 13] (fun o v wr => ∃ k : Nat, k ≤ N ∧ v = .int .i64 k ∧ BolsAt wr w.heap.size o (preB (fun x => cleanV N l s e x d) k) ∧ Below w.heap.size w wr) (fun _ v _ => N - (intOf v).toNat)
        case atStart => exact ⟨0, Nat.zero_le _, rfl, bolsAt_nil _ _, HB1.out⟩
        case round =>
          obtain ⟨k, hk, rfl, hown, hbr⟩ := hrel
          have HO := Lib.hid hown
          have HB := Lib.hid hbr
          clear hown hbr
          have hk0 : (0 : Int) ≤ k := by omega
          by_cases hlt : k < N
          · have hk1 : (k : Int) < N := by omega
            have HC := Lib.hid (HCL.out k hlt wr HB.out)
            have HP := Lib.hid (preB_succ (fun x => cleanV N l s e x d) k)
            have hlen : (preB (fun x => cleanV N l s e x d) k).length ≤ 1000000 := by rw [preB_len]; omega
            have HP : Hid (preB (fun x => cleanV N l s e x d) (k + 1) = preB (fun x => cleanV N l s e x d) k ++ [cleanV N l s e (k : Int) d]) := HP
            generalize cleanV N l s e (k : Int) d = q at HC HP
            go_wp2_with fail
            refine (HC.out).mono ?_
            rintro r w2 ⟨rfl, hb2⟩
            have HO1 := Lib.hid (HO.out.below hb2)
            have HB2 := Lib.hid (HB.out.trans (hb2.mono HB.out.size))
            clear hb2
            go_wp2_with (at_builtin; refine app_bool rfl (.tmp 35) (.tmp 43) rfl w.heap.size _ _ q rfl (HO1.out.below (below_al1 _ _)) w2.heap.size rfl (one_bool _ _) hlen (HB2.out.alloc HB2.out.size _).size ?_; intro v2 w3 hown2 hg2; have HO2 := Lib.hid hown2; have HB3 := Lib.hid (bolsAt_app (HB2.out.alloc HB2.out.size _) (HO1.out.below (below_al1 _ _)) hg2); clear hown2 hg2)
            go_roundw
            case rel => exact ⟨k + 1, by omega, by go_num, by rw [HP.out]; exact HO2.out, HB3.out⟩
            case measure => simp [intOf]; omega
          · obtain rfl : k = N := by omega
            have hge : ¬ (k : Int) < k := by omega
            go_wp2_with fail
            go_ret
            exact ⟨_, rfl, by rw [HV.out]; exact HO.out, HB.out⟩

set_option maxRecDepth 100000 in
set_option maxHeartbeats 4000000 in
theorem rafter_any {w : World} {A : Option Addr} {m c : Nat} {l : List Lk} (hr : Rd lkc 3 w A m l) (n s e d : Int) (hm : m ≤ 1000) :
    Calls Try.prog 36 #[.int .i64 n, .slice A m c, .int .i64 s, .int .i64 e, .int .i64 d] w fun r w' => ∃ v, r = .returned v ∧ IntsAt w' w.heap.size v (afterV n l s e d) ∧ Below w.heap.size w w' := by
  have HRI := Lib.hid (rright2_any (c := c) hr n s e hm)
  have HWI := Lib.hid (fun w' (hb : Below w.heap.size w w') => rwithout_any (c := c) (hr.below hb) s e hm)
  have HML := Lib.hid (show (withoutG l s e).length ≤ 1000 by have := withoutG_len l s e; have := hr.1; omega)
  clear hr
  cases hg : (rightG n l s && rightG n l e) with
  | false =>
    have HE := Lib.hid (show afterV n l s e d = [] by unfold afterV; rw [if_neg (by rw [hg]; simp)])
    rw [hg] at HRI
    clear hg
    go_enter Try.func36, Try.ntmps36
    go_wp2_with fail
    refine (HRI.out).mono ?_
    rintro r w1 ⟨rfl, hb1⟩
    go_wp2_with fail
    go_ret
    exact ⟨_, rfl, by rw [HE.out]; exact intsAt_nil _ _, hb1⟩
  | true =>
    have HE := Lib.hid (show afterV n l s e d = pathG n (withoutG l s e) s d by unfold afterV; rw [if_pos hg])
    rw [hg] at HRI
    clear hg
    go_enter Try.func36, Try.ntmps36
    go_wp2_with fail
    refine (HRI.out).mono ?_
    rintro r w1 ⟨rfl, hb1⟩
    have HB1 := Lib.hid hb1
    have HW1 := Lib.hid (HWI.out w1 hb1)
    clear hb1 HRI HWI
    go_wp2_with fail
    refine (HW1.out).mono ?_
    rintro r w2 ⟨v, rfl, hv, hb2⟩
    obtain ⟨B, q, rfl, hrd⟩ := hv.rd
    have HB2 := Lib.hid (HB1.out.trans (hb2.mono HB1.out.size))
    have HPA := Lib.hid (rpath_any (c := q) hrd n s d HML.out)
    clear hb2 hv hrd
    go_wp2_with fail
    refine (HPA.out).mono ?_
    rintro r w3 ⟨v, rfl, hv, hb3⟩
    have HR := Lib.hid (own_mono hv HB2.out.size)
    have HB3 := Lib.hid (HB2.out.trans (hb3.mono HB2.out.size))
    clear hv hb3
    go_wp2_with fail
    go_ret
    exact ⟨v, rfl, by rw [HE.out]; exact HR.out, HB3.out⟩

set_option maxRecDepth 100000 in
set_option maxHeartbeats 4000000 in
theorem after_any {w : World} {A : Option Addr} {m c : Nat} {l : List Lk} (hr : Rd lkc 3 w A m l) (n s e d : Int) (hm : m ≤ 1000) :
    Calls Try.prog 35 #[.int .i64 n, .slice A m c, .int .i64 s, .int .i64 e, .int .i64 d] w fun r w' => ∃ v, r = .returned v ∧ IntsAt w' w.heap.size v (afterV n l s e d) ∧ Below w.heap.size w w' := by
  have hal : Below w.heap.size w ((w.alloc (.cells #[.int .i64 n, .slice A m c, .int .i64 s, .int .i64 e] 74)).alloc (.cells #[.int .i64 d] 3)) := by go_grown
  have hv0 : IntsAt ((w.alloc (.cells #[.int .i64 n, .slice A m c, .int .i64 s, .int .i64 e] 74)).alloc (.cells #[.int .i64 d] 3)) w.heap.size (.slice (some ⟨w.heap.size + 1, 0, none⟩) 1 1) [d] := by
    have h1 := intsAt_one (w := w.alloc (.cells #[.int .i64 n, .slice A m c, .int .i64 s, .int .i64 e] 74)) (B := w.heap.size) (by simp) d
    rwa [show (w.alloc (.cells #[.int .i64 n, .slice A m c, .int .i64 s, .int .i64 e] 74)).heap.size = w.heap.size + 1 by simp] at h1
  have HRI := Lib.hid (vright_any (c := c) (hr.below hal) n s e hm hv0 (by simp) hal.size)
  rw [show ([d] ++ [s, e] : List Int) = [d, s, e] from rfl, rightV_three, rG_d] at HRI
  have HWI := Lib.hid (fun w' (hb : Below w.heap.size w w') => without_any (c := c) (hr.below hb) s e hm)
  have HML := Lib.hid (show (withoutG l s e).length ≤ 1000 by have := withoutG_len l s e; have := hr.1; omega)
  have HAL := Lib.hid hal
  clear hr hv0 hal
  cases hg : ((rightG n l s && rightG n l e) && (decide (0 ≤ d) && decide (d < n))) with
  | false =>
    have HE := Lib.hid (show afterV n l s e d = [] by
      unfold afterV
      by_cases h1 : (rightG n l s && rightG n l e) = true
      · rw [h1, Bool.true_and] at hg
        rw [if_pos h1]
        unfold pathG
        rw [if_neg]
        rintro ⟨_, h3⟩
        have := rightG_ok.1 h3
        simp at hg
        omega
      · rw [if_neg h1])
    rw [hg] at HRI
    clear hg
    go_enter Try.func35, Try.ntmps35
    go_wp2_with fail
    refine (HRI.out).mono ?_
    rintro r w1 ⟨rfl, hb1⟩
    have HB1 := Lib.hid (HAL.out.trans hb1)
    clear hb1
    go_wp2_with fail
    go_ret
    exact ⟨_, rfl, by rw [HE.out]; exact intsAt_nil _ _, HB1.out⟩
  | true =>
    have HE := Lib.hid (show afterV n l s e d = pathG n (withoutG l s e) s d by unfold afterV; rw [Bool.and_eq_true] at hg; rw [if_pos hg.1])
    rw [hg] at HRI
    clear hg
    go_enter Try.func35, Try.ntmps35
    go_wp2_with fail
    refine (HRI.out).mono ?_
    rintro r w1 ⟨rfl, hb1⟩
    have HB1 := Lib.hid (HAL.out.trans hb1)
    have HW1 := Lib.hid (HWI.out w1 HB1.out)
    clear hb1 HRI HWI
    go_wp2_with fail
    refine (HW1.out).mono ?_
    rintro r w2 ⟨v, rfl, hv, hb2⟩
    obtain ⟨B, q, rfl, hrd⟩ := hv.rd
    have HB2 := Lib.hid (HB1.out.trans (hb2.mono HB1.out.size))
    have HPA := Lib.hid (path_any (c := q) hrd n s d HML.out)
    clear hb2 hv hrd
    go_wp2_with fail
    refine (HPA.out).mono ?_
    rintro r w3 ⟨v, rfl, hv, hb3⟩
    have HR := Lib.hid (own_mono hv HB2.out.size)
    have HB3 := Lib.hid (HB2.out.trans (hb3.mono HB2.out.size))
    clear hv hb3
    go_wp2_with fail
    go_ret
    exact ⟨v, rfl, by rw [HE.out]; exact HR.out, HB3.out⟩
end Go.Proofs.Ytmdcfiejkbhgpaa
