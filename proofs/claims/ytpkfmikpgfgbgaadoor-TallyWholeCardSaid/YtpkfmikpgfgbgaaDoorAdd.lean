/-
  The program's Add: what it does to a tally.
-/
import Derived.Test.YtpkfmikpgfgbgaaDoorAddP
namespace Go.Proofs.YtpkfmikpgfgbgaaDoor
open Go.RowKit

theorem below_drewN {B : Nat} {a w : World} (h : Below B a w) (n : Nat) : Below B a (w.drewN n) := ⟨h.os, h.tape, h.output, h.size, h.block⟩
/-- a box with a verdict -/
def vbox (what why port : Int) (mpls : Bool) (A : Option Addr) (n c : Nat) : Obj := .cells #[.int .i64 what, .int .i64 why, .int .i64 port, .bool mpls, .slice A n c] 35
theorem nil_add (what why port : Int) (mpls : Bool) (A : Option Addr) (n c : Nat) (size : Int) (w : World) :
    Calls Tryd.prog 8 #[.pointer none, .agg #[.int .i64 what, .int .i64 why, .int .i64 port, .bool mpls, .slice A n c], .int .i64 size] w fun e w' => e = .returned (.tuple #[]) ∧ Below w.heap.size w w' := by
  go_enter Tryd.func8, Tryd.ntmps8
  go_wp2_with fail
  go_quiet (fail)
  go_wp2
  refine bodyPost_ret (results_none rfl _ _ _) rfl ?_
  exact ⟨rfl, below_drewN ((Below.refl _ _).alloc (Nat.le_refl _) _) _⟩
set_option maxRecDepth 100000 in
set_option maxHeartbeats 2000000 in
theorem add_not {w : World} {b : Nat} (what why port : Int) (mpls : Bool) (A : Option Addr) (n c : Nat) (size : Int) (hin : inB what why = false) :
    Calls Tryd.prog 8 #[.pointer (some ⟨b, 0, none⟩), .agg #[.int .i64 what, .int .i64 why, .int .i64 port, .bool mpls, .slice A n c], .int .i64 size] w fun e w' => e = .returned (.tuple #[]) ∧ Below w.heap.size w w' := by
  have HQ := Lib.hid (fun (A : Option Addr) (n c : Nat) (i : Int) (w : World) => (within_any A n c i w).mono (R' := fun e w' => e = .returned (.bool (inRow i n)) ∧ w' = w) fun _ _ ⟨h1, h2⟩ => ⟨h1, h2.symm⟩)
  have hw : inRow what 4 = false ∨ inRow what 4 = true ∧ inRow why 13 = false := by
    by_cases h1 : inRow what 4 = true
    · refine .inr ⟨h1, ?_⟩
      simp [inRow] at h1 ⊢
      simp [inB] at hin
      intro h2
      have := hin h1.1 (by omega) h2
      omega
    · exact .inl (by simpa using h1)
  clear hin
  rcases hw with hw | ⟨hw1, hw2⟩
  · go_enter Tryd.func8, Tryd.ntmps8
    go_wp2_with fail
    go_quiet ((go_at_call 19; exact Calls.quiet_of_same (HQ.out _ _ _ _ _)))
    go_wp2
    refine bodyPost_ret (results_none rfl _ _ _) rfl ?_
    exact ⟨rfl, below_drewN ((Below.refl _ _).alloc (Nat.le_refl _) _) _⟩
  · go_enter Tryd.func8, Tryd.ntmps8
    go_wp2_with fail
    go_quiet ((go_at_call 19; exact Calls.quiet_of_same (HQ.out _ _ _ _ _)))
    go_wp2
    refine bodyPost_ret (results_none rfl _ _ _) rfl ?_
    exact ⟨rfl, below_drewN ((Below.refl _ _).alloc (Nat.le_refl _) _) _⟩

/-- on the way: the tally, the box, and all else as it was -/
structure Way (w wi : World) (b : Nat) (Z : Nat → Int) (what why port : Int) (mpls : Bool) (A : Option Addr) (n c : Nat) : Prop where
  tl : TlAt wi b 52 Z
  box : wi.heap[w.heap.size]? = some (vbox what why port mpls A n c)
  gr : w.grownBy wi (some b)
section
variable {w wi : World} {b : Nat} {Z : Nat → Int} {what why port : Int} {mpls : Bool} {A : Option Addr} {n c : Nat}
theorem Way.cells (h : Way w wi b Z what why port mpls A n c) : wi.cell? ⟨w.heap.size, 0, none⟩ = some (.int .i64 what) ∧ wi.cell? ⟨w.heap.size, 1, none⟩ = some (.int .i64 why) ∧ wi.cell? ⟨w.heap.size, 2, none⟩ = some (.int .i64 port) ∧ wi.cell? ⟨w.heap.size, 4, none⟩ = some (.slice A n c) := by
  refine ⟨?_, ?_, ?_, ?_⟩ <;> (rw [cell_of_row wi _ _ _ _ (0, 0) h.box]; rfl)
theorem Way.start (h : TlAt w b 52 Z) : Way w (w.alloc (vbox what why port mpls A n c)) b Z what why port mpls A n c :=
  ⟨h.below (Below.alloc (Below.refl _ w) (Nat.le_refl _) _), heap_alloc_new w _, grown_of_below (Below.alloc (Below.refl _ w) (Nat.le_refl _) _) _⟩
theorem Way.drewN (h : Way w wi b Z what why port mpls A n c) (m : Nat) : Way w (wi.drewN m) b Z what why port mpls A n c := ⟨h.tl, h.box, ⟨h.gr.os, h.gr.tape, h.gr.output, h.gr.size, h.gr.block⟩⟩
theorem Way.drew (h : Way w wi b Z what why port mpls A n c) : Way w wi.drew b Z what why port mpls A n c := h.drewN 1
theorem Way.set (h : Way w wi b Z what why port mpls A n c) (hb : b < w.heap.size) {i : Nat} (hi : i < 146) (x : Int) : Way w (wi.setCell ⟨b, i, none⟩ (.int .i64 x)) b (upd Z i x) what why port mpls A n c :=
  ⟨h.tl.set hi x, by rw [heap_setCell_other wi ⟨b, i, none⟩ _ _ (by show w.heap.size ≠ b; omega)]; exact h.box, grown_trans h.gr ⟨rfl, rfl, rfl, by simp, fun k _ hk => heap_setCell_other wi ⟨b, i, none⟩ k _ (fun e => hk (by simp [e]))⟩⟩
end

set_option maxRecDepth 100000 in
set_option maxHeartbeats 2000000 in
theorem add_in {w : World} {b : Nat} {Z : Nat → Int} (h : TlAt w b 52 Z) (hb : Bd 1099511627776 Z) (a r : Nat) (ha : a < 4) (hr : r < 13) (port : Int) (mpls : Bool) (A : Option Addr) (n c : Nat) (hn : n ≤ 65000) (size : Int) :
    Calls Tryd.prog 8 #[.pointer (some ⟨b, 0, none⟩), .agg #[.int .i64 a, .int .i64 r, .int .i64 port, .bool mpls, .slice A n c], .int .i64 size] w fun e w' => e = .returned (.tuple #[]) ∧ TlAt w' b 52 (addZ Z (dl a r port n size)) ∧ w.grownBy w' (some b) := by
  have HQ := Lib.hid (fun (A : Option Addr) (n c : Nat) (i : Int) (w : World) => (within_any A n c i w).mono (R' := fun e w' => e = .returned (.bool (inRow i n)) ∧ w' = w) fun _ _ ⟨h1, h2⟩ => ⟨h1, h2.symm⟩)
  have hw1 : inRow (a : Int) 4 = true := by simp [inRow]; omega
  have hw2 : inRow (r : Int) 13 = true := by simp [inRow]; omega
  have ha' : (a : Int) < 4 := by omega
  have hr' : (r : Int) < 13 := by omega
  have ha0 : (0 : Int) ≤ a := by omega
  have hr0 : (0 : Int) ≤ r := by omega
  have HW := Lib.hid (Way.start (what := a) (why := r) (port := port) (mpls := mpls) (A := A) (n := n) (c := c) h)
  have hlt := h.lt
  have HB := Lib.hid hb
  unfold vbox at HW
  clear h hb
  go_enter Tryd.func8, Tryd.ntmps8
  go_wp2_with fail
  go_quiet ((go_at_call 19; exact Calls.quiet_of_same (HQ.out _ _ _ _ _)))
  go_wp2_with fail
  have HW1 := Lib.hid (HW.out.drewN nq)
  clear HW
  generalize (w.alloc _).drewN nq = w1 at HW1 ⊢
  have hc := HW1.out.tl.cell (show a < 146 by omega)
  have hf := HW1.out.tl.fr a
  obtain ⟨x0, x1, x2, x4⟩ := HW1.out.cells
  have hz := HB.out a
  have e1 : IntKind.i64.wrap (Z a + 1) = Z a + 1 := IntWalk.i64_in _ (by omega)
  go_still_tail 11, (by kernel_rfl)
  go_wp2_with fail
  clear hc hf x0 x1 x2 x4 hz e1
  have HW2 := Lib.hid (HW1.out.set hlt (show a < 146 by omega) (Z a + 1)).drew
  clear HW1
  generalize (w1.setCell _ _).drew = w2 at HW2 ⊢
  change Hid (Way w w2 b (z1 Z a) a r port mpls A n c) at HW2
  have hc := HW2.out.tl.cell (show 4 + r < 146 by omega)
  have hf := HW2.out.tl.fr (4 + r)
  obtain ⟨x0, x1, x2, x4⟩ := HW2.out.cells
  have hz := z1_bd HB.out a (4 + r)
  have e1 : IntKind.i64.wrap (z1 Z a (4 + r) + 1) = z1 Z a (4 + r) + 1 := IntWalk.i64_in _ (by omega)
  go_still_tail 11, (by kernel_rfl)
  go_upto_region 4 with fail
  clear hc hf x0 x1 x2 x4 hz e1
  have HW3 := Lib.hid (HW2.out.set hlt (show 4 + r < 146 by omega) (z1 Z a (4 + r) + 1)).drew
  clear HW2
  generalize (w2.setCell _ _).drew = w3 at HW3 ⊢
  change Hid (Way w w3 b (z2 Z a r) a r port mpls A n c) at HW3
  have hc := HW3.out.tl.cell (show 17 < 146 by omega)
  have hf := HW3.out.tl.fr 17
  obtain ⟨x0, x1, x2, x4⟩ := HW3.out.cells
  have hz := z2_bd HB.out a r 17
  have hmx : (if size < 0 then 0 else size) = mx0 size := rfl
  have hcut : (if 65536 < mx0 size then (65536 : Int) else mx0 size) = cut size := rfl
  have hcb := cut_bd size
  go_upto_region 5 with fail
  clear hc hf x0 x1 x2 x4 hz hcut hmx
  have HW4 := Lib.hid (HW3.out.set hlt (show 17 < 146 by omega) (z2 Z a r 17 + cut size))
  clear HW3
  generalize w3.setCell _ _ = w4 at HW4 ⊢
  change Hid (Way w w4 b (z3 Z a r size) a r port mpls A n c) at HW4
  obtain ⟨x0, x1, x2, x4⟩ := HW4.out.cells
  by_cases ho : outB a port = true
  · have ho' : ((a : Int) = 0 ∨ (a : Int) = 3) ∧ 0 ≤ port ∧ port < 64 := by simpa [outB] using ho
    obtain ⟨q, rfl⟩ := Int.eq_ofNat_of_zero_le ho'.2.1
    have hq : q < 64 := by omega
    have hq' : (q : Int) < 64 := by omega
    have hq0 : (0 : Int) ≤ q := by omega
    have hw3 : inRow (q : Int) 64 = true := by simp [inRow]; omega
    have HO := Lib.hid ho
    have hp : ((a : Int) == 0) = true ∨ ((a : Int) == 0) = false ∧ ((a : Int) == 3) = true := by
      rcases ho'.1 with h | h
      · exact .inl (beq_iff_eq.2 h)
      · exact .inr ⟨beq_eq_false_iff_ne.2 (by omega), beq_iff_eq.2 h⟩
    clear ho ho'
    rcases hp with hp | ⟨hp, hp2⟩
    all_goals
      go_quiet ((go_at_call 19; exact Calls.quiet_of_same (HQ.out _ _ _ _ _)))
      go_wp2_with fail
      have HW5 := Lib.hid (HW4.out.drewN nq)
      clear HW4 x0 x1 x2 x4 hp
      generalize w4.drewN nq = w5 at HW5 ⊢
      have hc := HW5.out.tl.cell (show 18 + q < 146 by omega)
      have hf := HW5.out.tl.fr (18 + q)
      obtain ⟨x0, x1, x2, x4⟩ := HW5.out.cells
      have hz := z3_bd HB.out a r size (18 + q)
      have e1 : IntKind.i64.wrap (z3 Z a r size (18 + q) + 1) = z3 Z a r size (18 + q) + 1 := IntWalk.i64_in _ (by omega)
      go_still_tail 11, (by kernel_rfl)
      go_wp2_with fail
      clear hc hf x0 x1 x2 x4 hz e1
      have HW6 := Lib.hid (HW5.out.set hlt (show 18 + q < 146 by omega) (z3 Z a r size (18 + q) + 1)).drew
      clear HW5
      generalize (w5.setCell _ _).drew = w6 at HW6 ⊢
      change Hid (Way w w6 b (z4 Z a r size q) a r q mpls A n c) at HW6
      have hc := HW6.out.tl.cell (show 82 + q < 146 by omega)
      have hf := HW6.out.tl.fr (82 + q)
      obtain ⟨x0, x1, x2, x4⟩ := HW6.out.cells
      have hz := z4_bd HB.out a r size q (82 + q)
      have e1 : IntKind.i64.wrap (z4 Z a r size q (82 + q) + (n : Int)) = z4 Z a r size q (82 + q) + n := IntWalk.i64_in _ (by omega)
      have HW7 := Lib.hid (HW6.out.set hlt (show 82 + q < 146 by omega) (z4 Z a r size q (82 + q) + n)).drew
      go_still_tail 14, (by kernel_rfl)
      go_wp2
      go_end0
      have h7 := HW7.out
      change Way w _ b (z5 Z a r size q n) a r q mpls A n c at h7
      rw [z5_eq Z ha hr size n HO.out] at h7
      exact ⟨rfl, h7.tl, h7.gr⟩
  · have ho' : outB a port = false := by simpa using ho
    have HO := Lib.hid ho'
    have hp : (((a : Int) == 0) = true ∧ inRow port 64 = false) ∨ (((a : Int) == 0) = false ∧ ((a : Int) == 3) = true ∧ inRow port 64 = false) ∨ (((a : Int) == 0) = false ∧ ((a : Int) == 3) = false) := by
      by_cases h1 : (a : Int) = 0
      · refine .inl ⟨beq_iff_eq.2 h1, ?_⟩
        have h3 : ¬ (((a : Int) = 0 ∨ (a : Int) = 3) ∧ 0 ≤ port ∧ port < 64) := of_decide_eq_false ho'
        exact decide_eq_false (by omega)
      · by_cases h2 : (a : Int) = 3
        · refine .inr (.inl ⟨beq_eq_false_iff_ne.2 h1, beq_iff_eq.2 h2, ?_⟩)
          have h3 : ¬ (((a : Int) = 0 ∨ (a : Int) = 3) ∧ 0 ≤ port ∧ port < 64) := of_decide_eq_false ho'
          exact decide_eq_false (by omega)
        · exact .inr (.inr ⟨beq_eq_false_iff_ne.2 h1, beq_eq_false_iff_ne.2 h2⟩)
    clear ho ho'
    rcases hp with ⟨hp, hp2⟩ | ⟨hp, hp2, hp3⟩ | ⟨hp, hp2⟩
    all_goals
      go_quiet ((go_at_call 19; exact Calls.quiet_of_same (HQ.out _ _ _ _ _)))
      go_wp2
      go_end0
      have h7 := HW4.out.drewN nq
      rw [z3_eq Z ha hr size n HO.out] at h7
      exact ⟨rfl, h7.tl, h7.gr⟩

theorem add_any {w : World} {b : Nat} {Z : Nat → Int} (h : TlAt w b 52 Z) (hb : Bd 1099511627776 Z) (what why port : Int) (mpls : Bool) (A : Option Addr) (n c : Nat) (hn : n ≤ 65000) (size : Int) :
    Calls Tryd.prog 8 #[.pointer (some ⟨b, 0, none⟩), .agg #[.int .i64 what, .int .i64 why, .int .i64 port, .bool mpls, .slice A n c], .int .i64 size] w fun e w' => e = .returned (.tuple #[]) ∧ TlAt w' b 52 (addZ Z (dl what why port n size)) ∧ w.grownBy w' (some b) := by
  by_cases hi : inB what why = true
  · have hi' : 0 ≤ what ∧ what < 4 ∧ 0 ≤ why ∧ why < 13 := by simpa [inB] using hi
    obtain ⟨a, rfl⟩ := Int.eq_ofNat_of_zero_le hi'.1
    obtain ⟨r, rfl⟩ := Int.eq_ofNat_of_zero_le hi'.2.2.1
    exact add_in h hb a r (by omega) (by omega) port mpls A n c hn size
  · have hi' : inB what why = false := by simpa using hi
    refine (add_not what why port mpls A n c size hi').mono ?_
    rintro e w' ⟨rfl, hbl⟩
    rw [dl_not hi', addZ_zero']
    exact ⟨rfl, h.below hbl, grown_of_below hbl _⟩

end Go.Proofs.YtpkfmikpgfgbgaaDoor
