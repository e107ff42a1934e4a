/-
  The reference's Next, walked.
-/
import Derived.Test.YtmdcfiejkbhgpaaInts
namespace Go.Proofs.Ytmdcfiejkbhgpaa
open Go.RowKit

noncomputable def nextU (n : Int) (l : List Lk) (s t i : Int) : Bool := usesG n l s t s i && !(s == t)
def preN (k : Nat) : List Int := (List.range k).map fun i : Nat => (i : Int)
theorem preN_succ (k : Nat) : preN (k + 1) = preN k ++ [(k : Int)] := by simp [preN, List.range_succ]
theorem preN_len (k : Nat) : (preN k).length = k := by simp [preN]
noncomputable def nextsU (n : Int) (l : List Lk) (s t : Int) : List Int := (nodes n).filter (nextU n l s t)
noncomputable def preU (n : Int) (l : List Lk) (s t : Int) (k : Nat) : List Int := (preN k).filter (nextU n l s t)
theorem preU_yes {n : Int} {l : List Lk} {s t : Int} {k : Nat} (h : nextU n l s t k = true) : preU n l s t (k + 1) = preU n l s t k ++ [(k : Int)] := by
  unfold preU
  rw [preN_succ, List.filter_append]
  simp [h]
theorem preU_no {n : Int} {l : List Lk} {s t : Int} {k : Nat} (h : nextU n l s t k = false) : preU n l s t (k + 1) = preU n l s t k := by
  unfold preU
  rw [preN_succ, List.filter_append]
  simp [h]
theorem preU_len (n : Int) (l : List Lk) (s t : Int) (k : Nat) : (preU n l s t k).length ≤ k := by
  have := List.length_filter_le (nextU n l s t) (preN k)
  rw [preN_len] at this
  exact this
theorem usesG_ok {n : Int} {l : List Lk} {s t a b : Int} (h : usesG n l s t a b = true) : GOk n l := by
  unfold usesG at h
  simp only [Bool.and_eq_true] at h
  exact (rightG_ok.1 h.1.1.1.1).1
theorem preU_end {n : Int} {l : List Lk} {s t : Int} {k : Nat} (h0 : k = 0 ∨ (k : Int) ≤ n) (h : n ≤ k ∨ 64 ≤ k) : preU n l s t k = nextsU n l s t := by
  unfold preU nextsU
  by_cases e : n ≤ k
  · have : k = n.toNat := by omega
    subst this
    rfl
  · have key : ∀ x, nextU n l s t x = false := by
      intro x
      cases hx : nextU n l s t x with
      | false => rfl
      | true =>
        unfold nextU at hx
        simp only [Bool.and_eq_true] at hx
        have := (usesG_ok hx.1).n64
        omega
    rw [List.filter_eq_nil_iff.2 (fun x _ => by rw [key x]; simp), List.filter_eq_nil_iff.2 (fun x _ => by rw [key x]; simp)]

set_option maxRecDepth 100000 in
set_option maxHeartbeats 8000000 in
theorem rnext_any {w : World} {A : Option Addr} {m c : Nat} {l : List Lk} (hr : Rd lkc 3 w A m l) (n s t : Int) (hm : m ≤ 1000) :
    Calls Try.prog 19 #[.int .i64 n, .slice A m c, .int .i64 s, .int .i64 t] w fun e w' => ∃ v, e = .returned v ∧ IntsAt w' w.heap.size v (nextsU n l s t) ∧ Below w.heap.size w w' := by
  have HU := Lib.hid (fun w' (hb : Below w.heap.size w w') b => ruses_any (c := c) (hr.below hb) n s t s b hm)
  have hb0 : Below w.heap.size w w := Below.refl _ _
  clear hr
  go_enter Try.func19, Try.ntmps19
  go_wp2_with fail
  go_loopw [9, 10] (fun o v wr => ∃ k : Nat, k ≤ 64 ∧ (k = 0 ∨ (k : Int) ≤ n) ∧ v = .int .i64 k ∧ IntsAt wr w.heap.size o (preU n l s t k) ∧ Below w.heap.size w wr) (fun _ v _ => 64 - (intOf v).toNat)
  case atStart => exact ⟨0, Nat.zero_le _, .inl rfl, rfl, intsAt_nil _ _, hb0⟩
  case round =>
    rename_i u9 u10
    obtain ⟨k, hk, hkn, rfl, hown, hbr⟩ := hrel
    have HO := Lib.hid hown
    have HB := Lib.hid hbr
    have hlen := preU_len n l s t k
    clear hown hbr
    have hk0 : (0 : Int) ≤ k := by omega
    by_cases h1 : (k : Int) < n
    · have d1 : decide ((k : Int) < n) = true := decide_eq_true h1
      by_cases h2 : k < 64
      · have d2 : decide ((k : Int) < 64) = true := decide_eq_true (by omega)
        have HU2 := Lib.hid (HU.out _ HB.out (k : Int))
        cases hu : nextU n l s t k with
        | false =>
          have HP := Lib.hid (preU_no hu)
          have HN := Lib.hid (show (usesG n l s t s k && !(s == t)) = false from hu)
          clear hu
          generalize usesG n l s t s k = uv at *
          go_wp2_with fail
          refine (HU2.out).mono ?_
          rintro e w1 ⟨rfl, hb1⟩
          have HO1 := Lib.hid (HO.out.below hb1)
          have HB1 := Lib.hid (HB.out.trans (hb1.mono HB.out.size))
          clear hb1
          cases uv
          · go_wp2_with fail
            go_roundw
            case rel => exact ⟨k + 1, by omega, .inr (by omega), by go_num, by rw [HP.out]; exact HO1.out, HB1.out⟩
            case measure => simp [intOf]; omega
          · have d3 : (s == t) = true := by have := HN.out; simpa using this
            go_wp2_with fail
            go_roundw
            case rel => exact ⟨k + 1, by omega, .inr (by omega), by go_num, by rw [HP.out]; exact HO1.out, HB1.out⟩
            case measure => simp [intOf]; omega
        | true =>
          have HP := Lib.hid (preU_yes hu)
          have hu' : (usesG n l s t s k && !(s == t)) = true := hu
          rw [Bool.and_eq_true] at hu'
          have d3 : (s == t) = false := by simpa using hu'.2
          rw [hu'.1] at HU2
          clear hu hu'
          go_wp2_with fail
          refine (HU2.out).mono ?_
          rintro e w1 ⟨rfl, hb1⟩
          have HO1 := Lib.hid (HO.out.below hb1)
          have HB1 := Lib.hid (HB.out.trans (hb1.mono HB.out.size))
          clear hb1 HU2
          go_wp2_with (at_builtin; refine app_int rfl (.tmp 34) (.tmp 36) rfl w.heap.size _ _ (k : Int) rfl (HO1.out.below (below_al1 _ _)) w1.heap.size rfl (one_int _ _) (by omega) (HB1.out.alloc HB1.out.size _).size ?_; intro v2 w2 hown2 hg2; have HO2 := Lib.hid hown2; have HB2 := Lib.hid (intsAt_app (HB1.out.alloc HB1.out.size _) (HO1.out.below (below_al1 _ _)) hg2); clear hown2 hg2)
          go_roundw
          case rel => exact ⟨k + 1, by omega, .inr (by omega), by go_num, by rw [HP.out]; exact HO2.out, HB2.out⟩
          case measure => simp [intOf]; omega
      · have d2 : decide ((k : Int) < 64) = false := decide_eq_false (by omega)
        have HE := Lib.hid (preU_end (l := l) (s := s) (t := t) hkn (.inr (show 64 ≤ k by omega)))
        go_wp2_with fail
        go_ret
        exact ⟨_, rfl, by rw [← HE.out]; exact HO.out, HB.out⟩
    · have d1 : decide ((k : Int) < n) = false := decide_eq_false h1
      have HE := Lib.hid (preU_end (l := l) (s := s) (t := t) hkn (.inl (show n ≤ k by omega)))
      go_wp2_with fail
      go_ret
      exact ⟨_, rfl, by rw [← HE.out]; exact HO.out, HB.out⟩
end Go.Proofs.Ytmdcfiejkbhgpaa
