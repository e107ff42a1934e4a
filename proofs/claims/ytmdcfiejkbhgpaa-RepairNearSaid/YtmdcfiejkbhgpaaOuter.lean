/-
  spf.Dist, spf.Next, walked.
-/
import Derived.Test.YtmdcfiejkbhgpaaNextP
namespace Go.Proofs.Ytmdcfiejkbhgpaa
open Go.RowKit

theorem rd_ints (w : World) (l : List Int) : Rd intc 1 (w.alloc (.cells (ints l).toArray 3)) (some ⟨w.heap.size, 0, none⟩) l.length l :=
  ⟨rfl, fun i x hx => ⟨w.heap.size, 0, rfl, fun j u hu => by
    have hj : j = 0 := by
      rcases j with _ | j
      · rfl
      · simp [intc] at hu
    subst hj
    simp [intc] at hu
    subst hu
    have h1 : (ints l)[i]? = some (.int .i64 x) := by simp [ints, hx]
    simpa using h1⟩⟩
theorem rightV_two {n : Int} {l : List Lk} {s t : Int} : rightV n l [s, t] = (rightG n l s && rightG n l t) := by
  rw [Bool.eq_iff_iff, rightV_ok, Bool.and_eq_true, rightG_ok, rightG_ok]
  simp
  constructor
  · rintro ⟨h, h1, h2⟩; exact ⟨⟨h, h1⟩, h, h2⟩
  · rintro ⟨⟨h, h1⟩, _, h2⟩; exact ⟨h, h1, h2⟩
theorem rightV_four {n : Int} {l : List Lk} {s t a b : Int} : rightV n l [s, t, a, b] = (rightG n l s && rightG n l t && rightG n l a && rightG n l b) := by
  rw [Bool.eq_iff_iff, rightV_ok]
  simp only [Bool.and_eq_true, rightG_ok]
  simp
  constructor
  · rintro ⟨h, h1, h2, h3, h4⟩; exact ⟨⟨⟨⟨h, h1⟩, h, h2⟩, h, h3⟩, h, h4⟩
  · rintro ⟨⟨⟨⟨h, h1⟩, _, h2⟩, _, h3⟩, _, h4⟩; exact ⟨h, h1, h2, h3, h4⟩
/-- the call of right with these nodes, laid in a row ahead of it -/
theorem right_new {w w0 : World} {A : Option Addr} {m c : Nat} {l : List Lk} (hr : Rd lkc 3 w0 A m l) (hb : Below w0.heap.size w0 w) (n : Int) (hm : m ≤ 1000) (ns : List Int) (hk : ns.length ≤ 1000) (k : Nat) (hkk : ns.length = k) :
    Calls Try.prog 45 #[.int .i64 n, .slice A m c, .slice (some ⟨w.heap.size, 0, none⟩) k k] (w.alloc (.cells (ints ns).toArray 3)) fun e w' => e = .returned (.bool (rightV n l ns)) ∧ Below w.heap.size w w' := by
  subst hkk
  refine (right_any (c := c) ((hr.below hb).below (below_al1 w _)) n hm (rd_ints w ns) hk).mono ?_
  rintro e w' ⟨he, hb'⟩
  exact ⟨he, (below_al1 w _).trans (hb'.mono (by simp))⟩

set_option maxRecDepth 100000 in
set_option maxHeartbeats 8000000 in
theorem Dist_any {w : World} {A : Option Addr} {m c : Nat} {l : List Lk} (hr : Rd lkc 3 w A m l) (n s : Int) (hm : m ≤ 1000) :
    Calls Try.prog 16 #[.int .i64 n, .slice A m c, .int .i64 s] w (GivesD w n l s) := by
  have HRI := Lib.hid (right_new (c := c) hr (Below.refl _ _) n hm [s] (by simp) 1 rfl)
  rw [rightV_one] at HRI
  cases hg : rightG n l s with
  | false =>
    have HG := Lib.hid (fun (e : Ending) (w' : World) (h : e = .returned (.slice none 0 0) ∧ Below w.heap.size w w') => show GivesD w n l s e w' by unfold GivesD; rw [if_neg (by rw [hg]; simp)]; exact h)
    rw [hg] at HRI
    clear hr hg
    go_enter Try.func16, Try.ntmps16
    go_wp2_with (go_at_call 45; refine (HRI.out).mono ?_; rintro e w1 ⟨rfl, hb1⟩)
    go_ret
    exact HG.out _ _ ⟨rfl, hb1⟩
  | true =>
    have HG := Lib.hid (fun (e : Ending) (w' : World) (h : RowD w n l s e w') => show GivesD w n l s e w' by unfold GivesD; rw [if_pos hg]; exact h)
    obtain ⟨hgk, hs0, hs1⟩ := rightG_ok.1 hg
    have HD := Lib.hid (fun w' (hb : Below w.heap.size w w') => dist_any (c := c) (hr.below hb) hgk ⟨hs0, hs1⟩ hm)
    rw [hg] at HRI
    clear hr hg hgk hs0 hs1
    go_enter Try.func16, Try.ntmps16
    go_wp2_with (first
      | (go_at_call 45; refine (HRI.out).mono ?_; rintro e w1 ⟨rfl, hb1⟩)
      | (go_at_call 46; refine (HD.out _ hb1).mono ?_; rintro e w2 ⟨b, rfl, hrow, hb2⟩))
    go_ret
    exact HG.out _ _ ⟨b, rfl, own_mono hrow hb1.size, hb1.trans (hb2.mono hb1.size)⟩

theorem nextsU_no {n : Int} {l : List Lk} {s t : Int} (h : (rightG n l s && rightG n l t) = false) : nextsU n l s t = [] := by
  unfold nextsU
  rw [List.filter_eq_nil_iff]
  intro x _
  unfold nextU usesG
  rw [h]
  simp

set_option maxRecDepth 100000 in
set_option maxHeartbeats 8000000 in
theorem Next_any {w : World} {A : Option Addr} {m c : Nat} {l : List Lk} (hr : Rd lkc 3 w A m l) (n s t : Int) (hm : m ≤ 1000) :
    Calls Try.prog 18 #[.int .i64 n, .slice A m c, .int .i64 s, .int .i64 t] w fun e w' => ∃ v, e = .returned v ∧ IntsAt w' w.heap.size v (nextsU n l s t) ∧ Below w.heap.size w w' := by
  have HRI := Lib.hid (right_new (c := c) hr (Below.refl _ _) n hm [s, t] (by simp) 2 rfl)
  rw [rightV_two] at HRI
  cases hg : (rightG n l s && rightG n l t) with
  | false =>
    have HE := Lib.hid (nextsU_no hg)
    rw [hg] at HRI
    clear hr hg
    go_enter Try.func18, Try.ntmps18
    go_wp2_with (go_at_call 45; refine (HRI.out).mono ?_; rintro e w1 ⟨rfl, hb1⟩)
    go_ret
    exact ⟨_, rfl, by rw [HE.out]; exact intsAt_nil _ _, hb1⟩
  | true =>
    rw [hg] at HRI
    rw [Bool.and_eq_true] at hg
    obtain ⟨hgk, hs0, hs1⟩ := rightG_ok.1 hg.1
    obtain ⟨-, ht0, ht1⟩ := rightG_ok.1 hg.2
    have HE := Lib.hid (nextsU_eq hgk ⟨hs0, hs1⟩ ⟨ht0, ht1⟩)
    have HBK := Lib.hid (fun w' (hb : Below w.heap.size w w') => back_any (c := c) (hr.below hb) hgk ⟨ht0, ht1⟩ hm)
    have HNX := Lib.hid (fun w' (hb : Below w.heap.size w w') b N (hN : n = (N : Nat)) hl => next_any (w := w') (b := b) (N := N) (c := c) (hr.below hb) hgk hN ⟨hs0, hs1⟩ ⟨ht0, ht1⟩ hl hm)
    obtain ⟨N, hN⟩ : ∃ N : Nat, n = N := ⟨n.toNat, by omega⟩
    subst hN
    clear hr hg hgk hs0 hs1 ht0 ht1
    go_enter Try.func18, Try.ntmps18
    go_wp2_with (first
      | (go_at_call 45; refine (HRI.out).mono ?_; rintro e w1 ⟨rfl, hb1⟩)
      | (go_at_call 49; refine (HBK.out _ hb1).mono ?_; rintro e w2 ⟨b, rfl, hrow, hb2⟩; rw [Int.toNat_natCast] at *; have HB2 := Lib.hid (hb1.trans (hb2.mono hb1.size)); have HN2 := Lib.hid (HNX.out w2 HB2.out b N rfl hrow.rowL); clear hrow hb2)
      | (go_at_call 48; refine (HN2.out).mono ?_; rintro e w3 ⟨v, rfl, ho3, hb3⟩))
    go_ret
    exact ⟨v, rfl, by rw [HE.out]; exact own_mono ho3 HB2.out.size, HB2.out.trans (hb3.mono HB2.out.size)⟩
end Go.Proofs.Ytmdcfiejkbhgpaa
