/-
  The reference's ints and SameHop: are two rows, two hops, the same?
-/
import Derived.Test.YtifadjakpllpfaaHop
namespace Go.Proofs.Ytifadjakpllpfaa
open Go.RowKit

set_option maxHeartbeats 2000000 in
theorem ints_any (A A2 : Option Addr) (n c n2 c2 : Nat) (l l2 : List Int) (w : World) (h1 : Rd int1 1 w A n l) (h2 : Rd int1 1 w A2 n2 l2) (hn : n ≤ 1000000) (hn2 : n2 ≤ 1000000) :
    Calls Try.prog 31 #[.slice A n c, .slice A2 n2 c2] w fun e w' => e = .returned (.bool (decide (l = l2))) ∧ Below w.heap.size w w' := by
  have hl1 := h1.1
  have hl2 := h2.1
  have H1 := Lib.hid h1
  have H2 := Lib.hid h2
  clear h1 h2
  by_cases hne : n = n2
  · subst hne
    have hne : ((n : Int) != (n : Int)) = false := by simp
    go_enter Try.func31, Try.ntmps31
    go_wp2
    go_loopw [5] (fun u W => ∃ k : Nat, k ≤ n ∧ u = .int .i64 k ∧ l.take k = l2.take k ∧ Below w.heap.size w W) (fun u _ => n - (intOf u).toNat)
    case atStart => exact ⟨0, Nat.zero_le _, rfl, rfl, Below.refl _ _⟩
    case round =>
      obtain ⟨k, hk, rfl, htk, hb⟩ := hrel
      by_cases hlt : k < n
      · obtain ⟨x, b1, o1, hx, rfl, hc1⟩ := (H1.out.below hb).at_ hlt
        obtain ⟨y, b2, o2, hy, rfl, hc2⟩ := (H2.out.below hb).at_ hlt
        have hc1 : wr.cell? ⟨b1, o1 + k, none⟩ = some (.int .i64 x) := by have := hc1 0 _ rfl; simpa using this
        have hc2 : wr.cell? ⟨b2, o2 + k, none⟩ = some (.int .i64 y) := by have := hc2 0 _ rfl; simpa using this
        have hk0 : (0 : Int) ≤ k := by omega
        have hkn : (k : Int) < n := by omega
        have HB := Lib.hid hb
        have HTK := Lib.hid htk
        have HX := Lib.hid hx
        have HY := Lib.hid hy
        clear hb htk hx hy
        by_cases hxy : x = y
        · subst hxy
          have hne2 : (x != x) = false := by simp
          go_wp2
          go_quiet (fail)
          go_wp2
          go_roundw
          case rel => exact ⟨k + 1, by omega, by go_num, by rw [take_snoc HX.out, take_snoc HY.out, HTK.out], below_drewN HB.out _⟩
          case measure => simp [intOf]; omega
        · have hne2 : (x != y) = true := by simpa using hxy
          have hll : decide (l = l2) = false := by
            simp only [decide_eq_false_iff_not]
            rintro rfl
            have := HX.out
            rw [HY.out] at this
            exact hxy (Option.some.inj this).symm
          go_wp2
          go_quiet (fail)
          go_wp2
          go_ret
          exact ⟨by rw [hll]; rfl, below_drewN HB.out _⟩
      · have hkn : n = k := by omega
        subst hkn
        have hll : decide (l = l2) = true := by
          simp only [decide_eq_true_eq]
          rw [← List.take_of_length_le (show l.length ≤ n by omega), ← List.take_of_length_le (show l2.length ≤ n by omega)]
          exact htk
        clear htk
        go_wp2
        go_ret
        exact ⟨by rw [hll]; rfl, hb⟩
  · have hne : ((n : Int) != (n2 : Int)) = true := by simp; omega
    have hll : decide (l = l2) = false := by
      simp only [decide_eq_false_iff_not]
      rintro rfl
      omega
    go_enter Try.func31, Try.ntmps31
    go_wp2
    go_ret
    exact ⟨by rw [hll]; rfl, Below.refl _ _⟩

/-- of one row each: the same hop -/
structure SixBox (w w' : World) (h : Nat) (a b : List Value) : Prop where
  below : Below w.heap.size w w'
  one : w'.heap[h]? = some (.cells a.toArray 35 (0, 0))
  two : w'.heap[h + 1]? = some (.cells b.toArray 35 (0, 0))
theorem six_box {w : World} {h : Nat} {t : TypeId} {a0 a1 a2 a3 a4 a5 : Value} (k : w.heap[h]? = some (.cells #[a0, a1, a2, a3, a4, a5] t (0, 0))) :
    w.cell? ⟨h, 0, none⟩ = some a0 ∧ w.cell? ⟨h, 1, none⟩ = some a1 ∧ w.cell? ⟨h, 2, none⟩ = some a2 ∧ w.cell? ⟨h, 3, none⟩ = some a3 ∧ w.cell? ⟨h, 4, none⟩ = some a4 ∧ w.cell? ⟨h, 5, none⟩ = some a5 := by
  refine ⟨?_, ?_, ?_, ?_, ?_, ?_⟩ <;> (rw [cell_of_row w h _ _ _ (0, 0) k]; rfl)

set_option maxHeartbeats 2000000 in
theorem same_any (op port backup : Int) (L R : Option Addr) (ln lc rn rc : Nat) (pipe : Bool) (L2 R2 : Option Addr) (lc2 rc2 : Nat) (ll rl : List Int) (w : World) (h1 : Rd int1 1 w L ln ll) (h2 : Rd int1 1 w R rn rl) (h3 : Rd int1 1 w L2 ln ll) (h4 : Rd int1 1 w R2 rn rl) (hn : ln ≤ 1000000) (hn2 : rn ≤ 1000000) :
    Calls Try.prog 15 #[.agg #[.int .i64 op, .slice L ln lc, .int .i64 port, .int .i64 backup, .slice R rn rc, .bool pipe], .agg #[.int .i64 op, .slice L2 ln lc2, .int .i64 port, .int .i64 backup, .slice R2 rn rc2, .bool pipe]] w fun e w' =>
      e = .returned (.bool true) ∧ Below w.heap.size w w' := by
  have HL : Hid (∀ W, Below w.heap.size w W → Calls Try.prog 31 #[.slice L ln lc, .slice L2 ln lc2] W fun e w' => e = .returned (.bool true) ∧ Below W.heap.size W w') := fun W hW => by
    have := ints_any L L2 ln lc ln lc2 ll ll W (h1.below hW) (h3.below hW) hn hn
    rwa [show decide (ll = ll) = true by simp] at this
  have HR : Hid (∀ W, Below w.heap.size w W → Calls Try.prog 31 #[.slice R rn rc, .slice R2 rn rc2] W fun e w' => e = .returned (.bool true) ∧ Below W.heap.size W w') := fun W hW => by
    have := ints_any R R2 rn rc rn rc2 rl rl W (h2.below hW) (h4.below hW) hn2 hn2
    rwa [show decide (rl = rl) = true by simp] at this
  clear h1 h2 h3 h4
  have KS : Hid (SixBox w ((w.alloc (.cells #[.int .i64 op, .slice L ln lc, .int .i64 port, .int .i64 backup, .slice R rn rc, .bool pipe] 35)).alloc (.cells #[.int .i64 op, .slice L2 ln lc2, .int .i64 port, .int .i64 backup, .slice R2 rn rc2, .bool pipe] 35)) w.heap.size
      [.int .i64 op, .slice L ln lc, .int .i64 port, .int .i64 backup, .slice R rn rc, .bool pipe] [.int .i64 op, .slice L2 ln lc2, .int .i64 port, .int .i64 backup, .slice R2 rn rc2, .bool pipe]) :=
    ⟨by go_grown, heap_alloc2_old _ _ _, heap_alloc2_new _ _ _⟩
  go_enter Try.func15, Try.ntmps15
  go_wp2_with fail
  refine (HL.out _ KS.out.below).mono ?_
  rintro e w1 ⟨rfl, hb1⟩
  have ho1 := (hb1.block _ (by simp <;> omega)).trans KS.out.one
  have ho2 := (hb1.block _ (by simp <;> omega)).trans KS.out.two
  have HB1 := Lib.hid (below_step KS.out.below hb1)
  obtain ⟨a0, a1, a2, a3, a4, a5⟩ := six_box ho1
  obtain ⟨b0, b1, b2, b3, b4, b5⟩ := six_box ho2
  have HO1 := Lib.hid ho1
  have HO2 := Lib.hid ho2
  clear hb1 ho1 ho2
  go_wp2_with fail
  refine (HR.out _ HB1.out).mono ?_
  rintro e w2 ⟨rfl, hb2⟩
  clear a0 a1 a2 a3 a4 a5 b0 b1 b2 b3 b4 b5
  obtain ⟨a0, a1, a2, a3, a4, a5⟩ := six_box ((hb2.block _ (Array.getElem?_eq_some_iff.1 HO1.out).1).trans HO1.out)
  obtain ⟨b0, b1, b2, b3, b4, b5⟩ := six_box ((hb2.block _ (Array.getElem?_eq_some_iff.1 HO2.out).1).trans HO2.out)
  have HB2 := Lib.hid (below_step HB1.out hb2)
  clear hb2
  have e1 : (op == op) = true := by simp
  have e2 : (port == port) = true := by simp
  have e3 : (backup == backup) = true := by simp
  have e4 : (pipe == pipe) = true := by simp
  go_wp2
  go_ret
  exact ⟨rfl, HB2.out⟩

end Go.Proofs.Ytifadjakpllpfaa
