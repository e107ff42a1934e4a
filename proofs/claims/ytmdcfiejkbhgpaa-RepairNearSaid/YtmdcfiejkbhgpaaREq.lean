/-
  The reference's Ints and Same, walked.
-/
import Derived.Test.YtmdcfiejkbhgpaaRPath
import Derived.ScopeJumps
namespace Go.Proofs.Ytmdcfiejkbhgpaa
open Go.RowKit

def intc (x : Int) : List Value := [.int .i64 x]
theorem intc_len (x : Int) : (intc x).length = 1 := rfl
theorem flat_intc : ∀ l : List Int, flatE intc l = ints l
  | [] => rfl
  | x :: r => by
    have := flat_intc r
    simp [flatE, ints, intc] at *
    exact this
/-- how a row of numbers of the call's own is read -/
theorem IntsAt.rd {w : World} {B : Nat} {v : Value} {l : List Int} (h : IntsAt w B v l) : ∃ A c, v = .slice A l.length c ∧ Rd intc 1 w A l.length l := by
  have h' : w.ownsRow B 3 1 v l.length (flatE intc l) := by rw [flat_intc]; exact h
  obtain ⟨A, c, hv, -, hr⟩ := Rd.of_own intc_len (by decide) h'
  exact ⟨A, c, hv, hr⟩
/-- the first k are alike -/
def Alike {α : Type} (a b : List α) (k : Nat) : Prop := ∀ (j : Nat) (x y : α), j < k → a[j]? = some x → b[j]? = some y → x = y
theorem alike_zero {α : Type} (a b : List α) : Alike a b 0 := fun j _ _ h => absurd h (Nat.not_lt_zero j)
theorem alike_succ {α : Type} {a b : List α} {k : Nat} {x : α} (h : Alike a b k) (hx : a[k]? = some x) (hy : b[k]? = some x) : Alike a b (k + 1) := by
  intro j u v hj hu hv
  by_cases e : j = k
  · subst e; rw [hx] at hu; rw [hy] at hv; cases hu; cases hv; rfl
  · exact h j u v (by omega) hu hv
theorem alike_all {α : Type} {a b : List α} {m : Nat} (h : Alike a b m) (ha : a.length = m) (hb : b.length = m) : a = b := by
  apply List.ext_getElem (by rw [ha, hb])
  intro i h1 h2
  exact h i _ _ (by omega) (List.getElem?_eq_getElem h1) (List.getElem?_eq_getElem h2)
theorem not_alike {α : Type} {a b : List α} {k : Nat} {x y : α} (hx : a[k]? = some x) (hy : b[k]? = some y) (hne : x ≠ y) : a ≠ b := by
  rintro rfl
  rw [hx] at hy
  cases hy
  exact hne rfl

set_option maxRecDepth 100000 in
set_option maxHeartbeats 4000000 in
theorem rints_any {w : World} {A E : Option Addr} {m k c d : Nat} {a b : List Int} (ha : Rd intc 1 w A m a) (hb : Rd intc 1 w E k b) (hm : m ≤ 1000000) (hk : k ≤ 1000000) :
    Calls Try.prog 15 #[.slice A m c, .slice E k d] w fun e w' => e = .returned (.bool (decide (a = b))) ∧ Below w.heap.size w w' := by
  have HA := Lib.hid ha
  have HE := Lib.hid hb
  have hbw : Below w.heap.size w w := Below.refl _ _
  have hla := ha.1
  have hlb := hb.1
  clear ha hb
  by_cases hmk : m = k
  · subst hmk
    have HL := Lib.hid (And.intro hla hlb)
    clear hla hlb
    go_enter Try.func15, Try.ntmps15
    go_wp2_with fail
    go_loopw [5] (fun v wr => ∃ i : Nat, i ≤ m ∧ v = .int .i64 i ∧ Alike a b i ∧ Below w.heap.size w wr) (fun v _ => m - (intOf v).toNat)
    case atStart => exact ⟨0, Nat.zero_le _, rfl, alike_zero _ _, hbw⟩
    case round =>
      obtain ⟨i, hi, rfl, hal, hbr⟩ := hrel
      have HAL := Lib.hid hal
      have HB := Lib.hid hbr
      clear hal hbr
      have hi0 : (0 : Int) ≤ i := by omega
      by_cases hlt : i < m
      · obtain ⟨x, b1, off1, hx, rfl, hc1⟩ := (HA.out.below HB.out).at_ hlt
        obtain ⟨y, b2, off2, hy, rfl, hc2⟩ := (HE.out.below HB.out).at_ hlt
        have hi1 : (i : Int) < m := by omega
        have c1 := hc1 0 _ rfl
        have c2 := hc2 0 _ rfl
        rw [Nat.add_zero] at c1 c2
        simp only [Nat.mul_one] at c1 c2
        have HX := Lib.hid hx
        have HY := Lib.hid hy
        clear hc1 hc2 hx hy
        by_cases hxy : x = y
        · have HN := Lib.hid (alike_succ HAL.out HX.out (by rw [hxy]; exact HY.out))
          have d1 : (x == y) = true := by simpa using hxy
          have HB2 := Lib.hid (fun q => HB.out.trans ((below_dN (w := wr) q).mono HB.out.size))
          clear hxy HX HY HAL
          go_wp2_with fail
          go_quiet (fail)
          go_wp2_with fail
          go_roundw
          case rel => exact ⟨i + 1, by omega, by go_num, HN.out, HB2.out _⟩
          case measure => simp [intOf]; omega
        · have HN := Lib.hid (show decide (a = b) = false by simpa using not_alike HX.out HY.out hxy)
          have d1 : (x == y) = false := by simpa using hxy
          have HB2 := Lib.hid (fun q => HB.out.trans ((below_dN (w := wr) q).mono HB.out.size))
          clear hxy HX HY HAL
          go_wp2_with fail
          go_quiet (fail)
          go_wp2_with fail
          go_ret
          exact ⟨ret_bool HN.out.symm, HB2.out _⟩
      · have hge : ¬ (i : Int) < m := by omega
        have HN := Lib.hid (show decide (a = b) = true by simpa using alike_all (show Alike a b m by rw [show m = i by omega]; exact HAL.out) HL.out.1 HL.out.2)
        clear HAL hi hlt hi0
        go_wp2_with fail
        go_ret
        exact ⟨ret_bool HN.out.symm, HB.out⟩
  · have HN := Lib.hid (show decide (a = b) = false by simp; intro h; rw [h] at hla; omega)
    have d1 : ((m : Int) == (k : Int)) = false := by simp; omega
    clear hla hlb hmk
    go_enter Try.func15, Try.ntmps15
    go_wp2_with fail
    go_ret
    exact ⟨ret_bool HN.out.symm, hbw⟩
theorem neq_link (x y : Lk) (w : World) :
    (binOp .neq 34 (.agg #[.int .i64 x.f, .int .i64 x.t, .int .i64 x.c]) (.agg #[.int .i64 y.f, .int .i64 y.t, .int .i64 y.c])).run Try.prog w = .ok (.bool (!decide (x = y))) w := by
  have u3 := Try.underlying3
  have a3 := Try.isAgg3
  have z3 := Try.sizeOf3
  have hS : Try.prog.underlying 34 = some (.struct (Try.prog.fieldsOf 34)) := by kernel_rfl
  have hp : Try.prog.stoodInHeld 34 = false := by kernel_rfl
  rw [run_neq_struct, show (10000 : Nat) = 9999 + 1 from rfl, run_equalIn_agg w 9999 34 _ _ hS hp]
  simp only [Program.fieldsOf, Try.underlying34]
  go_simp
  obtain ⟨x1, x2, x3⟩ := x
  obtain ⟨y1, y2, y3⟩ := y
  by_cases h1 : x1 = y1 <;> by_cases h2 : x2 = y2 <;> by_cases h3 : x3 = y3 <;> simp [h1, h2, h3]
theorem guard_link : Try.prog.eqGuardType Try.prog.depth 34 = false := by kernel_rfl

set_option maxRecDepth 100000 in
set_option maxHeartbeats 4000000 in
theorem rsame_any {w : World} {A E : Option Addr} {m k c d : Nat} {a b : List Lk} (ha : Rd lkc 3 w A m a) (hb : Rd lkc 3 w E k b) (hm : m ≤ 1000000) (hk : k ≤ 1000000) :
    Calls Try.prog 24 #[.slice A m c, .slice E k d] w fun e w' => e = .returned (.bool (decide (a = b))) ∧ Below w.heap.size w w' := by
  have HA := Lib.hid ha
  have HE := Lib.hid hb
  have hbw : Below w.heap.size w w := Below.refl _ _
  have hla := ha.1
  have hlb := hb.1
  clear ha hb
  by_cases hmk : m = k
  · subst hmk
    have HL := Lib.hid (And.intro hla hlb)
    clear hla hlb
    go_enter Try.func24, Try.ntmps24
    go_wp2_with fail
    go_loopw [5] (fun v wr => ∃ i : Nat, i ≤ m ∧ v = .int .i64 i ∧ Alike a b i ∧ Below w.heap.size w wr) (fun v _ => m - (intOf v).toNat)
    case atStart => exact ⟨0, Nat.zero_le _, rfl, alike_zero _ _, hbw⟩
    case round =>
      obtain ⟨i, hi, rfl, hal, hbr⟩ := hrel
      have HAL := Lib.hid hal
      have HB := Lib.hid hbr
      clear hal hbr
      have hi0 : (0 : Int) ≤ i := by omega
      by_cases hlt : i < m
      · obtain ⟨x, b1, off1, hx, rfl, hc1⟩ := (HA.out.below HB.out).at_ hlt
        obtain ⟨y, b2, off2, hy, rfl, hc2⟩ := (HE.out.below HB.out).at_ hlt
        have hi1 : (i : Int) < m := by omega
        obtain ⟨x1, x2, x3⟩ := x
        obtain ⟨y1, y2, y3⟩ := y
        have c1 := hc1 0 _ rfl
        have c2 := hc1 1 _ rfl
        have c3 := hc1 2 _ rfl
        have e1 := hc2 0 _ rfl
        have e2 := hc2 1 _ rfl
        have e3 := hc2 2 _ rfl
        rw [Nat.add_zero] at c1 e1
        simp only at c1 c2 c3 e1 e2 e3
        have hq := fun W => neq_link ⟨x1, x2, x3⟩ ⟨y1, y2, y3⟩ W
        have hg := guard_link
        simp only at hq
        have HX := Lib.hid hx
        have HY := Lib.hid hy
        clear hc1 hc2 hx hy
        by_cases hxy : (⟨x1, x2, x3⟩ : Lk) = ⟨y1, y2, y3⟩
        · have HN := Lib.hid (alike_succ HAL.out HX.out (by rw [hxy]; exact HY.out))
          rw [show (!decide ((⟨x1, x2, x3⟩ : Lk) = ⟨y1, y2, y3⟩)) = false by simp [hxy]] at hq
          have HB2 := Lib.hid (fun q => HB.out.trans ((below_dN (w := wr) q).mono HB.out.size))
          clear hxy HX HY HAL
          go_wp2_with fail
          go_quiet (fail)
          go_wp2_with fail
          go_roundw
          case rel => exact ⟨i + 1, by omega, by go_num, HN.out, HB2.out _⟩
          case measure => simp [intOf]; omega
        · have HN := Lib.hid (show decide (a = b) = false by simpa using not_alike HX.out HY.out hxy)
          rw [show (!decide ((⟨x1, x2, x3⟩ : Lk) = ⟨y1, y2, y3⟩)) = true by simp [hxy]] at hq
          have HB2 := Lib.hid (fun q => HB.out.trans ((below_dN (w := wr) q).mono HB.out.size))
          clear hxy HX HY HAL
          go_wp2_with fail
          go_quiet (fail)
          go_wp2_with fail
          go_ret
          exact ⟨ret_bool HN.out.symm, HB2.out _⟩
      · have hge : ¬ (i : Int) < m := by omega
        have HN := Lib.hid (show decide (a = b) = true by simpa using alike_all (show Alike a b m by rw [show m = i by omega]; exact HAL.out) HL.out.1 HL.out.2)
        clear HAL hi hlt hi0
        go_wp2_with fail
        go_ret
        exact ⟨ret_bool HN.out.symm, HB.out⟩
  · have HN := Lib.hid (show decide (a = b) = false by simp; intro h; rw [h] at hla; omega)
    have d1 : ((m : Int) == (k : Int)) = false := by simp; omega
    clear hla hlb hmk
    go_enter Try.func24, Try.ntmps24
    go_wp2_with fail
    go_ret
    exact ⟨ret_bool HN.out.symm, hbw⟩
end Go.Proofs.Ytmdcfiejkbhgpaa
