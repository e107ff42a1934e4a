/-
  The reference's cost and Uses, walked.
-/
import Derived.Test.YtmdcfiejkbhgpaaRDist
namespace Go.Proofs.Ytmdcfiejkbhgpaa
open Go.RowKit

/-- none of the first k links goes from a to b -/
def NoLink (l : List Lk) (a b : Int) (k : Nat) : Prop := ∀ (j : Nat) (x : Lk), j < k → l[j]? = some x → ¬ (x.f = a ∧ x.t = b)
theorem noLink_zero (l : List Lk) (a b : Int) : NoLink l a b 0 := fun j _ h => absurd h (Nat.not_lt_zero j)
theorem noLink_succ {l : List Lk} {a b : Int} {k : Nat} {x : Lk} (h : NoLink l a b k) (hx : l[k]? = some x) (hb : ¬ (x.f = a ∧ x.t = b)) : NoLink l a b (k + 1) := by
  intro j y hj hy
  by_cases e : j = k
  · subst e; rw [hx] at hy; cases hy; exact hb
  · exact h j y (by omega) hy
theorem find_first {α : Type} {p : α → Bool} : ∀ {l : List α} {k : Nat} {x : α}, l[k]? = some x → p x = true → (∀ (j : Nat) (y : α), j < k → l[j]? = some y → p y = false) → l.find? p = some x
  | [], _, _, h, _, _ => by cases h
  | y :: r, 0, x, h, hp, _ => by
    simp at h; subst h
    rw [List.find?_cons, hp]
  | y :: r, k + 1, x, h, hp, hn => by
    rw [List.find?_cons, hn 0 y (by omega) rfl]
    exact find_first (l := r) (k := k) (by simpa using h) hp fun j z hj hz => hn (j + 1) z (by omega) (by simpa using hz)
theorem linkC_at {l : List Lk} {a b : Int} {k : Nat} {x : Lk} (h : NoLink l a b k) (hx : l[k]? = some x) (hb : x.f = a ∧ x.t = b) : linkC l a b = some x.c := by
  unfold linkC
  rw [find_first hx (by simp [hb]) fun j y hj hy => by have := h j y hj hy; simpa using this]
  rfl
theorem linkC_no {l : List Lk} {a b : Int} {k : Nat} (h : NoLink l a b k) (hk : l.length ≤ k) : linkC l a b = none := by
  unfold linkC
  rw [List.find?_eq_none.2]
  · rfl
  · intro x hx
    obtain ⟨j, hj, rfl⟩ := List.getElem_of_mem hx
    have := h j _ (by omega) (List.getElem?_eq_getElem hj)
    simpa using this
def costR (l : List Lk) (a b : Int) : Int := (linkC l a b).getD 0

set_option maxRecDepth 100000 in
set_option maxHeartbeats 4000000 in
theorem rcost_any {w : World} {A : Option Addr} {m c : Nat} {l : List Lk} (hr : Rd lkc 3 w A m l) (x y : Int) (hm : m ≤ 1000) :
    Calls Try.prog 56 #[.slice A m c, .int .i64 x, .int .i64 y] w fun e w' => e = .returned (.int .i64 (costR l x y)) ∧ Below w.heap.size w w' := by
  have HR := Lib.hid hr
  have HL := Lib.hid hr.1
  have hbw : Below w.heap.size w w := Below.refl _ _
  clear hr
  go_enter Try.func56, Try.ntmps56
  go_wp2_with fail
  go_loopw [7] (fun v wr => ∃ k : Nat, k ≤ m ∧ v = .int .i64 k ∧ NoLink l x y k ∧ Below w.heap.size w wr) (fun v _ => m - (intOf v).toNat)
  case atStart => exact ⟨0, Nat.zero_le _, rfl, noLink_zero _ _ _, hbw⟩
  case round =>
    obtain ⟨k, hk, rfl, hbef, hbr⟩ := hrel
    have HBEF := Lib.hid hbef
    have HBR := Lib.hid hbr
    clear hbef hbr
    have hk0 : (0 : Int) ≤ k := by omega
    by_cases hlt : k < m
    · obtain ⟨⟨xf, xt, xc⟩, b, off, hx, rfl, hcell⟩ := (HR.out.below HBR.out).at_ hlt
      have hk1 : (k : Int) < m := by omega
      have c0 := hcell 0 _ rfl
      have c1 := hcell 1 _ rfl
      have c2 := hcell 2 _ rfl
      rw [Nat.add_zero] at c0
      simp only at c0 c1 c2
      have HX := Lib.hid hx
      clear hx hcell
      by_cases hf : xf = x
      · have d1 : (xf == x) = true := by simpa using hf
        by_cases ht : xt = y
        · have d2 : (xt == y) = true := by simpa using ht
          have HC := Lib.hid (show costR l x y = xc by unfold costR; rw [linkC_at HBEF.out HX.out ⟨hf, ht⟩]; rfl)
          clear hf ht
          go_wp2_with fail
          go_ret
          exact ⟨ret_int HC.out.symm, HBR.out⟩
        · have d2 : (xt == y) = false := by simpa using ht
          have HN := Lib.hid (noLink_succ HBEF.out HX.out (fun e => ht e.2))
          clear hf ht
          go_wp2_with fail
          go_roundw
          case rel => exact ⟨k + 1, by omega, by go_num, HN.out, HBR.out⟩
          case measure => simp [intOf]; omega
      · have d1 : (xf == x) = false := by simpa using hf
        have HN := Lib.hid (noLink_succ HBEF.out HX.out (fun e => hf e.1))
        clear hf
        go_wp2_with fail
        go_roundw
        case rel => exact ⟨k + 1, by omega, by go_num, HN.out, HBR.out⟩
        case measure => simp [intOf]; omega
    · have hge : ¬ (k : Int) < m := by omega
      have HC := Lib.hid (show costR l x y = 0 by unfold costR; rw [linkC_no HBEF.out (by rw [HL.out]; omega)]; rfl)
      clear HBEF hk hlt hk0
      go_wp2_with fail
      go_ret
      exact ⟨ret_int HC.out.symm, HBR.out⟩

/-- does a least way from s to t go over the link from a to b? -/
noncomputable def usesV (l : List Lk) (s t a b : Int) : Bool := decide (0 < costR l a b) && decide (0 ≤ D l s a) && decide (0 ≤ D l b t) && decide (D l s a + costR l a b + D l b t = D l s t)
noncomputable def usesG (n : Int) (l : List Lk) (s t a b : Int) : Bool := rightG n l s && rightG n l t && rightG n l a && rightG n l b && usesV l s t a b
theorem costR_le {n : Int} {l : List Lk} (h : GOk n l) (a b : Int) : 0 ≤ costR l a b ∧ costR l a b ≤ 16777216 := by
  unfold costR
  cases e : linkC l a b with
  | none => simp
  | some k =>
    have := h.ok _ ((linkC_some h).1 e)
    simp only at this
    simp
    omega

set_option maxRecDepth 100000 in
set_option maxHeartbeats 8000000 in
theorem ruses_any {w : World} {A : Option Addr} {m c : Nat} {l : List Lk} (hr : Rd lkc 3 w A m l) (n s t a b : Int) (hm : m ≤ 1000) :
    Calls Try.prog 28 #[.int .i64 n, .slice A m c, .int .i64 s, .int .i64 t, .int .i64 a, .int .i64 b] w fun e w' => e = .returned (.bool (usesG n l s t a b)) ∧ Below w.heap.size w w' := by
  have HR1 := Lib.hid (fun w' (hb : Below w.heap.size w w') x => rright_any (c := c) (hr.below hb) n x hm)
  have HG := Lib.hid (show usesG n l s t a b = (rightG n l s && rightG n l t && rightG n l a && rightG n l b && usesV l s t a b) from rfl)
  have hb0 : Below w.heap.size w w := Below.refl _ _
  by_cases hall : rightG n l s = true ∧ rightG n l t = true ∧ rightG n l a = true ∧ rightG n l b = true
  · obtain ⟨h1, h2, h3, h4⟩ := hall
    have H1 := Lib.hid h1
    have H2 := Lib.hid h2
    have H3 := Lib.hid h3
    have H4 := Lib.hid h4
    obtain ⟨hgk, hs0, hs1⟩ := rightG_ok.1 h1
    obtain ⟨-, ht0, ht1⟩ := rightG_ok.1 h2
    obtain ⟨-, ha0, ha1⟩ := rightG_ok.1 h3
    obtain ⟨-, hbb0, hbb1⟩ := rightG_ok.1 h4
    have HC1 := Lib.hid (fun w' (hb : Below w.heap.size w w') => rcost_any (c := c) (hr.below hb) a b hm)
    have HD1 := Lib.hid (fun w' (hb : Below w.heap.size w w') x => rdist_any (c := c) (hr.below hb) n x hm)
    have hcl := costR_le hgk a b
    have hp := hgk.pos
    have hd1 := D_top (t := a) hgk ⟨hs0, hs1⟩
    have hd2 := D_top (t := t) hgk ⟨hbb0, hbb1⟩
    have hd3 := D_ge hp s a
    have hd4 := D_ge hp b t
    obtain ⟨N, hN⟩ : ∃ N : Nat, n = N := ⟨n.toNat, by have := hgk.n1; omega⟩
    subst hN
    obtain ⟨S, rfl, -⟩ := nat_of_lt hs0 hs1
    obtain ⟨T, rfl, -⟩ := nat_of_lt ht0 ht1
    obtain ⟨Q, rfl, -⟩ := nat_of_lt ha0 ha1
    obtain ⟨B, rfl, -⟩ := nat_of_lt hbb0 hbb1
    rw [h1, h2, h3, h4] at HG
    have HV := Lib.hid (show usesG N l S T Q B = (decide (0 < costR l Q B) && decide (0 ≤ D l S Q) && decide (0 ≤ D l B T) && decide (D l S Q + costR l Q B + D l B T = D l S T)) by rw [HG.out]; rfl)
    clear h1 h2 h3 h4 hgk hp hr HG
    go_enter Try.func28, Try.ntmps28
    go_wp2_with fail
    refine (HR1.out _ hb0 _).mono ?_
    rintro e w1 ⟨he, hb1⟩
    rw [H1.out] at he; subst he
    go_wp2_with fail
    refine (HR1.out _ hb1 _).mono ?_
    rintro e w2 ⟨he, hb2⟩
    rw [H2.out] at he; subst he
    replace hb2 := hb1.trans (hb2.mono hb1.size)
    clear hb1
    go_wp2_with fail
    refine (HR1.out _ hb2 _).mono ?_
    rintro e w3 ⟨he, hb3⟩
    rw [H3.out] at he; subst he
    replace hb3 := hb2.trans (hb3.mono hb2.size)
    clear hb2
    go_wp2_with fail
    refine (HR1.out _ hb3 _).mono ?_
    rintro e w4 ⟨he, hb4⟩
    rw [H4.out] at he; subst he
    replace hb4 := hb3.trans (hb4.mono hb3.size)
    clear hb3
    go_wp2_with fail
    refine (HC1.out _ hb4).mono ?_
    rintro e w5 ⟨rfl, hb5⟩
    replace hb5 := hb4.trans (hb5.mono hb4.size)
    clear hb4
    go_wp2_with fail
    refine (HD1.out _ hb5 _).mono ?_
    rintro e w6 hg6
    unfold GivesD at hg6
    rw [if_pos H1.out] at hg6
    obtain ⟨x6, rfl, hrow6, hb6⟩ := hg6
    replace hrow6 := Lib.hid hrow6
    have hs5 := hb5.size
    have hs6 := hb6.size
    replace hb6 := hb5.trans (hb6.mono hb5.size)
    clear hb5
    go_wp2_with fail
    refine (HD1.out _ hb6 _).mono ?_
    rintro e w7 hg7
    unfold GivesD at hg7
    rw [if_pos H4.out] at hg7
    obtain ⟨x7, rfl, hrow7, hb7⟩ := hg7
    replace hrow6 := Lib.hid (hrow6.out.below hb7)
    replace hrow7 := Lib.hid hrow7
    replace hb7 := Lib.hid (hb6.trans (hb7.mono hb6.size))
    clear hb6 HR1 HC1 HD1 hb0
    have y1 := hrow6.out.cell (i := Q) (by omega)
    have y2 := hrow6.out.cell (i := T) (by omega)
    have y3 := hrow7.out.cell (i := T) (by omega)
    clear hrow6 hrow7
    have hw1 : IntKind.i64.wrap (D l S Q + costR l Q B) = D l S Q + costR l Q B := IntWalk.i64_in _ (by omega)
    have hw2 : IntKind.i64.wrap (D l S Q + costR l Q B + D l B T) = D l S Q + costR l Q B + D l B T := IntWalk.i64_in _ (by omega)
    rw [Int.toNat_natCast]
    go_upto_region 10 with fail
    generalize costR l Q B = cc at *
    generalize D l S Q = da at *
    generalize D l B T = db at *
    generalize D l S T = dt at *
    have q1 : (Q : Int) < N := by omega
    have hQ0 : (0 : Int) ≤ Q := by omega
    have hT0 : (0 : Int) ≤ T := by omega
    by_cases g1 : 0 < cc
    · have d1 : decide (cc > 0) = true := decide_eq_true g1
      by_cases g2 : 0 ≤ da
      · have d2 : decide (da ≥ 0) = true := decide_eq_true g2
        by_cases g3 : 0 ≤ db
        · have d3 : decide (db ≥ 0) = true := decide_eq_true g3
          by_cases g4 : da + cc + db = dt
          · have d4 : (da + cc + db == dt) = true := by simpa using g4
            have HF := Lib.hid (show usesG N l S T Q B = true by rw [HV.out]; simp [g1, g2, g3, g4])
            clear g4 HV
            go_quiet (fail)
            go_wp2_with fail
            go_ret
            exact ⟨ret_bool HF.out.symm, hb7.out.trans ((below_dN _).mono hb7.out.size)⟩
          · have d4 : (da + cc + db == dt) = false := by simpa using g4
            have HF := Lib.hid (show usesG N l S T Q B = false by rw [HV.out]; simp [g4])
            clear g4 HV
            go_quiet (fail)
            go_wp2_with fail
            go_ret
            exact ⟨ret_bool HF.out.symm, hb7.out.trans ((below_dN _).mono hb7.out.size)⟩
        · have d3 : decide (db ≥ 0) = false := decide_eq_false g3
          have HF := Lib.hid (show usesG N l S T Q B = false by rw [HV.out]; simp [g3])
          clear HV
          go_quiet (fail)
          go_wp2_with fail
          go_ret
          exact ⟨ret_bool HF.out.symm, hb7.out.trans ((below_dN _).mono hb7.out.size)⟩
      · have d2 : decide (da ≥ 0) = false := decide_eq_false g2
        have HF := Lib.hid (show usesG N l S T Q B = false by rw [HV.out]; simp [g2])
        clear HV
        go_quiet (fail)
        go_wp2_with fail
        go_ret
        exact ⟨ret_bool HF.out.symm, hb7.out.trans ((below_dN _).mono hb7.out.size)⟩
    · have d1 : decide (cc > 0) = false := decide_eq_false g1
      have HF := Lib.hid (show usesG N l S T Q B = false by rw [HV.out]; simp [g1])
      clear HV
      go_quiet (fail)
      go_wp2_with fail
      go_ret
      exact ⟨ret_bool HF.out.symm, hb7.out.trans ((below_dN _).mono hb7.out.size)⟩
  · have HV := Lib.hid (show usesG n l s t a b = false by
      rw [HG.out]
      by_cases h1 : rightG n l s = true
      · by_cases h2 : rightG n l t = true
        · by_cases h3 : rightG n l a = true
          · by_cases h4 : rightG n l b = true
            · exact absurd ⟨h1, h2, h3, h4⟩ hall
            · simp [h4]
          · simp [h3]
        · simp [h2]
      · simp [h1])
    clear HG hr
    have key : ∀ r1 r2 r3 r4 : Bool, rightG n l s = r1 → rightG n l t = r2 → rightG n l a = r3 → rightG n l b = r4 → (r1 && r2 && r3 && r4) = false →
        Calls Try.prog 28 #[.int .i64 n, .slice A m c, .int .i64 s, .int .i64 t, .int .i64 a, .int .i64 b] w fun e w' => e = .returned (.bool false) ∧ Below w.heap.size w w' := by
      intro r1 r2 r3 r4 e1 e2 e3 e4 hno
      have H1 := Lib.hid e1
      have H2 := Lib.hid e2
      have H3 := Lib.hid e3
      have H4 := Lib.hid e4
      have HNO := Lib.hid hno
      clear e1 e2 e3 e4 hno HV hall
      go_enter Try.func28, Try.ntmps28
      go_wp2_with fail
      refine (HR1.out _ hb0 _).mono ?_
      rintro e w1 ⟨he, hb1⟩
      rw [H1.out] at he; subst he
      go_wp2_with fail
      refine (HR1.out _ hb1 _).mono ?_
      rintro e w2 ⟨he, hb2⟩
      rw [H2.out] at he; subst he
      replace hb2 := hb1.trans (hb2.mono hb1.size)
      clear hb1
      go_wp2_with fail
      refine (HR1.out _ hb2 _).mono ?_
      rintro e w3 ⟨he, hb3⟩
      rw [H3.out] at he; subst he
      replace hb3 := hb2.trans (hb3.mono hb2.size)
      clear hb2
      go_wp2_with fail
      refine (HR1.out _ hb3 _).mono ?_
      rintro e w4 ⟨he, hb4⟩
      rw [H4.out] at he; subst he
      replace hb4 := hb3.trans (hb4.mono hb3.size)
      clear hb3 HR1 H1 H2 H3 H4
      cases r1
      · go_wp2_with fail
        go_ret
        exact ⟨rfl, hb4⟩
      cases r2
      · go_wp2_with fail
        go_ret
        exact ⟨rfl, hb4⟩
      cases r3
      · go_wp2_with fail
        go_ret
        exact ⟨rfl, hb4⟩
      cases r4
      · go_wp2_with fail
        go_ret
        exact ⟨rfl, hb4⟩
      exact absurd HNO.out (by decide)
    rw [HV.out]
    refine key _ _ _ _ rfl rfl rfl rfl ?_
    cases h : (rightG n l s && rightG n l t && rightG n l a && rightG n l b) with
    | false => rfl
    | true =>
      simp only [Bool.and_eq_true] at h
      exact absurd ⟨h.1.1.1, h.1.1.2, h.1.2, h.2⟩ hall
end Go.Proofs.Ytmdcfiejkbhgpaa
