/-
  The reference's Path, walked.
-/
import Derived.Test.YtmdcfiejkbhgpaaRNext
namespace Go.Proofs.Ytmdcfiejkbhgpaa
open Go.RowKit

theorem costR_mem {n : Int} {l : List Lk} (h : GOk n l) {a b k : Int} (hm : (⟨a, b, k⟩ : Lk) ∈ l) : costR l a b = k := by
  unfold costR
  rw [(linkC_some h).2 hm]
  rfl
theorem costR_is {n : Int} {l : List Lk} (h : GOk n l) {a b : Int} (hc : 0 < costR l a b) : (⟨a, b, costR l a b⟩ : Lk) ∈ l := by
  unfold costR at *
  cases e : linkC l a b with
  | none => rw [e] at hc; exact absurd hc (by decide)
  | some k => exact (linkC_some h).1 e
theorem rightG_in {n : Int} {l : List Lk} (h : GOk n l) {x : Int} (hx : 0 ≤ x ∧ x < n) : rightG n l x = true := rightG_ok.2 ⟨h, hx.1, hx.2⟩
theorem usesV_iff {n : Int} {l : List Lk} (h : GOk n l) {s t a b : Int} : usesV l s t a b = true ↔ ∃ k, (⟨a, b, k⟩ : Lk) ∈ l ∧ usesD l s t a b k := by
  unfold usesV usesD
  simp only [Bool.and_eq_true, decide_eq_true_eq]
  constructor
  · rintro ⟨⟨⟨h1, h2⟩, h3⟩, h4⟩
    exact ⟨_, costR_is h h1, h2, h3, h4⟩
  · rintro ⟨k, hk, h2, h3, h4⟩
    rw [costR_mem h hk]
    have := h.pos _ hk
    simp only at this
    exact ⟨⟨⟨by omega, h2⟩, h3⟩, h4⟩
theorem nextsU_eq {n : Int} {l : List Lk} (h : GOk n l) {s t : Int} (hs : 0 ≤ s ∧ s < n) (ht : 0 ≤ t ∧ t < n) : nextsU n l s t = nexts n l s t := by
  unfold nextsU nexts
  refine List.filter_congr fun x hx => ?_
  have hx := mem_nodes.1 hx
  have key : nextU n l s t x = true ↔ nextTo l t s x := by
    unfold nextU usesG
    rw [rightG_in h hs, rightG_in h ht, rightG_in h hx]
    simp only [Bool.true_and, Bool.and_eq_true, Bool.not_eq_true', beq_eq_false_iff_ne, ne_eq]
    rw [usesV_iff h]
    unfold usesD nextTo
    constructor
    · rintro ⟨⟨k, hk, h1, h2, h3⟩, hne⟩
      rw [D_self h.pos] at h3
      have := h.pos _ hk
      simp only at this
      exact ⟨by omega, k, hk, h2, by omega⟩
    · rintro ⟨h0, k, hk, h2, h3⟩
      refine ⟨⟨k, hk, by rw [D_self h.pos]; omega, h2, by rw [D_self h.pos]; omega⟩, fun e => ?_⟩
      have := (D_zero h.pos (l := l)).2 e
      omega
  by_cases e : nextTo l t s x
  · rw [key.2 e]; simp [e]
  · have : nextU n l s t x = false := by
      cases hu : nextU n l s t x with
      | false => rfl
      | true => exact absurd (key.1 hu) e
    rw [this]; simp [e]
/-- the answer of Path -/
noncomputable def pathG (n : Int) (l : List Lk) (s t : Int) : List Int := if rightG n l s = true ∧ rightG n l t = true then pathL n l s t else []
/-- on the way: these are behind us, x is where we are -/
def OnWay (n : Int) (l : List Lk) (s t : Int) (q : List Int) (x : Int) : Prop := pathL n l s t = q ++ pathL n l x t ∧ 0 ≤ D l x t ∧ 0 ≤ x ∧ x < n
theorem onWay_step {n : Int} {l : List Lk} (h : GOk n l) {s t x : Int} {q : List Int} (hw : OnWay n l s t q x) (ht : 0 ≤ t ∧ t < n) (hne : x ≠ t) : ∃ b r, nextsU n l x t = b :: r ∧ OnWay n l s t (q ++ [x]) b ∧ D l b t < D l x t := by
  obtain ⟨h1, h2, h3⟩ := hw
  have hd := D_pos h.pos h2 hne
  obtain ⟨b, r, hb, hn⟩ := nexts_cons h hd
  obtain ⟨_, k, hk, hb0, hbe⟩ := hn
  have hkk := h.ok _ hk
  simp only at hkk
  refine ⟨b, r, by rw [nextsU_eq h h3 ht]; exact hb, ⟨?_, hb0, by omega, by omega⟩, by omega⟩
  rw [h1, pathL_step h hd hb]
  simp
theorem onWay_end {n : Int} {l : List Lk} (h : GOk n l) {s t : Int} {q : List Int} (hw : OnWay n l s t q t) : q ++ [t] = pathL n l s t := by
  rw [hw.1, pathL_end h]
theorem onWay_len {n : Int} {l : List Lk} (h : GOk n l) {s t x : Int} {q : List Int} (hw : OnWay n l s t q x) (hs : 0 ≤ s ∧ s < n) (h0 : 0 ≤ D l s t) : q.length < 64 := by
  have h1 := path_len h (t := t) h0 hs
  obtain ⟨r, hr⟩ := pathL_head h hw.2.1
  rw [hw.1, hr] at h1
  have := h.n64
  simp at h1
  omega
theorem intsAt_one {w : World} {B : Nat} (hB : B ≤ w.heap.size) (z : Int) : IntsAt (w.alloc (.cells #[.int .i64 z] 3)) B (.slice (some ⟨w.heap.size, 0, none⟩) 1 1) [z] :=
  own_grown (cs := #[.int .i64 z]) (z := #[.int .i64 0]) (by
    have e : #[Value.int .i64 z] ++ Builtin.zeroCells #[Value.int .i64 0] (1 - 1) = #[Value.int .i64 z] := by simp [Builtin.zeroCells]
    rw [e]
    exact heap_alloc_new _ _) hB (by decide) (by decide) rfl rfl
theorem q29 : ∀ (w : World) (a : Option Addr) (n c n' c' : Nat), (binOp .eql 29 (.slice a n c) (.slice none n' c')).run Try.prog w = .ok (.bool a.isNone) w := fun w a n c n' c' => Lib.run_eql_slice_nil w _ _ a n c n' c' Try.underlying29
theorem IntsAt.first {w : World} {B : Nat} {v : Value} {x : Int} {r : List Int} (h : IntsAt w B v (x :: r)) : ∃ g cap, v = .slice (some ⟨g, 0, none⟩) (r.length + 1) cap ∧ w.cell? ⟨g, 0, none⟩ = some (.int .i64 x) := by
  rcases own_form h with ⟨_, h0⟩ | ⟨g, cap, hv, _⟩
  · simp at h0
  · subst hv
    refine ⟨g, cap, rfl, ?_⟩
    rw [World.ownsRow.cellAt h 0 (by simp)]
    simp [ints]

set_option maxRecDepth 100000 in
set_option maxHeartbeats 8000000 in
theorem rpath_any {w : World} {A : Option Addr} {m c : Nat} {l : List Lk} (hr : Rd lkc 3 w A m l) (n s t : Int) (hm : m ≤ 1000) :
    Calls Try.prog 21 #[.int .i64 n, .slice A m c, .int .i64 s, .int .i64 t] w fun e w' => ∃ v, e = .returned v ∧ IntsAt w' w.heap.size v (pathG n l s t) ∧ Below w.heap.size w w' := by
  have HDI := Lib.hid (rdist_any (c := c) hr n s hm)
  have HRI := Lib.hid (fun w' (hb : Below w.heap.size w w') => rright_any (c := c) (hr.below hb) n t hm)
  by_cases h1 : rightG n l s = true
  · by_cases h2 : rightG n l t = true
    · obtain ⟨hgk, hs0, hs1⟩ := rightG_ok.1 h1
      obtain ⟨-, ht0, ht1⟩ := rightG_ok.1 h2
      have H1 := Lib.hid h1
      have H2 := Lib.hid h2
      have HGK := Lib.hid hgk
      have HP := Lib.hid (show pathG n l s t = pathL n l s t by unfold pathG; rw [if_pos ⟨h1, h2⟩])
      have HNX := Lib.hid (fun w' (hb : Below w.heap.size w w') x => rnext_any (c := c) (hr.below hb) n x t hm)
      obtain ⟨N, hN⟩ : ∃ N : Nat, n = N := ⟨n.toNat, by have := hgk.n1; omega⟩
      subst hN
      obtain ⟨T, rfl, -⟩ := nat_of_lt ht0 ht1
      have hN64 := hgk.n64
      have hnil := q29
      clear h1 h2 hgk hr
      go_enter Try.func21, Try.ntmps21
      go_wp2_with fail
      refine (HDI.out).mono ?_
      rintro e w1 hg
      unfold GivesD at hg
      rw [if_pos H1.out] at hg
      obtain ⟨x1, rfl, hrow, hb1⟩ := hg
      rw [Int.toNat_natCast] at *
      have HROW := Lib.hid hrow
      clear hrow
      go_wp2_with fail
      refine (HRI.out _ hb1).mono ?_
      rintro e w2 ⟨he, hb2⟩
      rw [H2.out] at he; subst he
      have hct := (HROW.out.below hb2).cell (i := T) (by omega)
      have HB2 := Lib.hid (hb1.trans (hb2.mono hb1.size))
      clear hb1 hb2 HROW HDI HRI
      by_cases hd : D l s T < 0
      · have d1 : decide (D l s T < 0) = true := decide_eq_true hd
        have HE := Lib.hid (show pathG N l s T = [] by rw [HP.out, pathL_no hd])
        go_wp2_with fail
        go_ret
        exact ⟨_, rfl, by rw [HE.out]; exact intsAt_nil _ _, HB2.out⟩
      · have d1 : decide (D l s T < 0) = false := decide_eq_false hd
        have HO1 := Lib.hid (intsAt_one HB2.out.size s)
        have HB3 := Lib.hid (HB2.out.alloc HB2.out.size (.cells #[.int .i64 s] 3))
        have HW0 := Lib.hid (show OnWay N l s T [] s from ⟨rfl, by omega, hs0, hs1⟩)
        have hds : 0 ≤ D l s T := by omega
        go_wp2_with fail
        go_loopw [11, 12] (fun o v wr => ∃ (q : List Int) (x : Int), v = .int .i64 x ∧ IntsAt wr w.heap.size o (q ++ [x]) ∧ OnWay N l s T q x ∧ Below w.heap.size w wr) (fun _ v _ => (D l (intOf v) (T : Int)).toNat)
        case atStart => exact ⟨[], s, rfl, HO1.out, HW0.out, HB3.out⟩
        case round =>
          obtain ⟨q, x, rfl, hown, hway, hbr⟩ := hrel
          have HO := Lib.hid hown
          have HW := Lib.hid hway
          have HB := Lib.hid hbr
          have hlen := onWay_len HGK.out hway ⟨hs0, hs1⟩ hds
          clear hown hway hbr HO1 HB3 HW0
          by_cases hx : x = T
          · have d2 : (x == (T : Int)) = true := by simpa using hx
            have HE := Lib.hid (show q ++ [x] = pathG N l s T by rw [HP.out]; rw [hx]; exact onWay_end HGK.out (by have := HW.out; rwa [hx] at this))
            clear hx
            go_wp2_with fail
            go_ret
            exact ⟨_, rfl, by rw [← HE.out]; exact HO.out, HB.out⟩
          · have d2 : (x == (T : Int)) = false := by simpa using hx
            obtain ⟨b, r, hb, hw', hlt⟩ := onWay_step HGK.out HW.out ⟨ht0, ht1⟩ hx
            have HBE := Lib.hid hb
            have HW' := Lib.hid hw'
            have HLT := Lib.hid (show (D l b T).toNat < (D l x T).toNat by have := HW'.out.2.1; omega)
            have HNX2 := Lib.hid (HNX.out _ HB.out x)
            clear hb hw' hlt hx
            go_wp2_with fail
            refine (HNX2.out).mono ?_
            rintro e w4 ⟨v4, rfl, hown4, hb4⟩
            rw [HBE.out] at hown4
            obtain ⟨g4, cap4, rfl, hc4⟩ := hown4.first
            have HO4 := Lib.hid (HO.out.below hb4)
            have HB4 := Lib.hid (HB.out.trans (hb4.mono HB.out.size))
            have hr0 : (0 : Int) ≤ (r.length : Int) := by omega
            clear hown4 hb4 HNX2
            go_wp2_with (at_builtin; refine app_int rfl (.tmp 47) (.tmp 49) rfl w.heap.size _ _ b rfl (HO4.out.below (below_al1 _ _)) w4.heap.size rfl (one_int _ _) (by simp; omega) (HB4.out.alloc HB4.out.size _).size ?_; intro v2 w5 hown2 hg2; have HO5 := Lib.hid hown2; have HB5 := Lib.hid (intsAt_app (HB4.out.alloc HB4.out.size _) (HO4.out.below (below_al1 _ _)) hg2); clear hown2 hg2)
            go_roundw
            case rel => exact ⟨q ++ [x], b, rfl, HO5.out, HW'.out, HB5.out⟩
            case measure => exact HLT.out
    · have HE := Lib.hid (show pathG n l s t = [] by unfold pathG; rw [if_neg fun h => h2 h.2])
      have hf : rightG n l t = false := by simpa using h2
      rw [hf] at HRI
      have HD := Lib.hid h1
      have hnil := q29
      clear h1 h2 hr hf
      go_enter Try.func21, Try.ntmps21
      go_wp2_with fail
      refine (HDI.out).mono ?_
      rintro e w1 hg
      unfold GivesD at hg
      rw [if_pos HD.out] at hg
      obtain ⟨x1, rfl, -, hb1⟩ := hg
      go_wp2_with fail
      refine (HRI.out _ hb1).mono ?_
      rintro e w2 ⟨rfl, hb2⟩
      have HB2 := Lib.hid (hb1.trans (hb2.mono hb1.size))
      clear hb1 hb2 HDI HRI
      go_wp2_with fail
      go_ret
      exact ⟨_, rfl, by rw [HE.out]; exact intsAt_nil _ _, HB2.out⟩
  · have HE := Lib.hid (show pathG n l s t = [] by unfold pathG; rw [if_neg fun h => h1 h.1])
    have HD := Lib.hid h1
    have hnil := q29
    clear h1 hr
    go_enter Try.func21, Try.ntmps21
    go_wp2_with fail
    refine (HDI.out).mono ?_
    rintro e w1 hg
    unfold GivesD at hg
    rw [if_neg HD.out] at hg
    obtain ⟨rfl, hb1⟩ := hg
    go_wp2_with fail
    refine (HRI.out _ hb1).mono ?_
    rintro e w2 ⟨rfl, hb2⟩
    have HB2 := Lib.hid (hb1.trans (hb2.mono hb1.size))
    clear hb1 hb2 HDI HRI
    go_wp2_with fail
    go_ret
    exact ⟨_, rfl, by rw [HE.out]; exact intsAt_nil _ _, HB2.out⟩
end Go.Proofs.Ytmdcfiejkbhgpaa
