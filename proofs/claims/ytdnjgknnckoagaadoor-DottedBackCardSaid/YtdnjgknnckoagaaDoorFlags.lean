/-
  Multi and Plain, the program's and the reference's; two addresses held against one another.
-/
import Derived.Test.YtdnjgknnckoagaaDoorMem
namespace Go.Proofs.YtdnjgknnckoagaaDoor
open Go.RowKit

/-- an address's four bytes -/
def av (a b c d : Int) : Value := .agg #[.int .u8 a, .int .u8 b, .int .u8 c, .int .u8 d]
def multiB (a b c d : Int) : Bool := decide (224 ≤ a ∧ a ≤ 239 ∨ (a = 255 ∧ b = 255 ∧ c = 255 ∧ d = 255))
def plainB (a : Int) : Bool := decide (a ≠ 0 ∧ a ≠ 127 ∧ a ≤ 223)
def sameB (a b c d e f g h : Int) : Bool := a == e && b == f && c == g && d == h

theorem eq_in (n : Nat) (a b c d e f g h : Int) (w : World) :
    (Op.equalIn (n + 2) 22 (.agg #[.int .u8 a, .int .u8 b, .int .u8 c, .int .u8 d]) (.agg #[.int .u8 e, .int .u8 f, .int .u8 g, .int .u8 h])).run Tryd.prog w = .ok (sameB a b c d e f g h) w := by
  have u := run_underlying (w := w) Tryd.underlying22
  have s := Tryd.sizeOf5
  have i5 := fun x y => run_equalIn_int (P := Tryd.prog) w n 5 .u8 .u8 x y Tryd.underlying5
  rw [Op.equalIn]
  simp [go_sem, u, s, i5, List.range', sameB]
  by_cases h1 : a = e <;> by_cases h2 : b = f <;> by_cases h3 : c = g <;> by_cases h4 : d = h <;> simp [h1, h2, h3, h4]
@[go_sem ↓, go_sem] theorem eql_4 (a b c d e f g h : Int) (w : World) :
    (binOp .eql 22 (.agg #[.int .u8 a, .int .u8 b, .int .u8 c, .int .u8 d]) (.agg #[.int .u8 e, .int .u8 f, .int .u8 g, .int .u8 h])).run Tryd.prog w = .ok (.bool (sameB a b c d e f g h)) w := by
  rw [run_eql_struct, eq_in]; rfl
theorem guard_4 : Tryd.prog.eqGuardType Tryd.prog.depth 22 = false := by kernel_rfl
@[go_sem ↓, go_sem] theorem eqg_4 (x y : Operand) (xs ys : Array Value) (w : World) : (eqGuard .eql 22 x y (.agg xs) (.agg ys)).run Tryd.prog w = .ok () w := run_eqGuard_agg w _ _ _ _ _ _ guard_4
set_option maxHeartbeats 1000000 in
theorem plain_any (a b c d : Int) (h0 : 0 ≤ a) (h1 : a ≤ 255) (w : World) :
    Calls Tryd.prog 12 #[av a b c d] w fun e w' => e = .returned (.bool (plainB a)) ∧ Below w.heap.size w w' := by
  unfold av
  go_enter Tryd.func12, Tryd.ntmps12
  go_wp2
  all_goals
    go_ret
    refine ⟨congrArg (fun b => Ending.returned (.bool b)) ?_, by go_grown⟩
    first | rfl | (unfold plainB; (try unfold sameB); rw [Bool.eq_iff_iff]; simp; done) | (unfold plainB; (try unfold sameB); rw [Bool.eq_iff_iff]; simp at *; omega)
set_option maxHeartbeats 1000000 in
theorem rplain_any (a b c d : Int) (h0 : 0 ≤ a) (h1 : a ≤ 255) (w : World) :
    Calls Tryd.prog 13 #[av a b c d] w fun e w' => e = .returned (.bool (plainB a)) ∧ Below w.heap.size w w' := by
  unfold av
  go_enter Tryd.func13, Tryd.ntmps13
  go_wp2
  all_goals
    go_ret
    refine ⟨congrArg (fun b => Ending.returned (.bool b)) ?_, by go_grown⟩
    first | rfl | (unfold plainB; (try unfold sameB); rw [Bool.eq_iff_iff]; simp; done) | (unfold plainB; (try unfold sameB); rw [Bool.eq_iff_iff]; simp at *; omega)
set_option maxHeartbeats 1000000 in
theorem multi_any (a b c d : Int) (h0 : 0 ≤ a) (h1 : a ≤ 255) (w : World) :
    Calls Tryd.prog 10 #[av a b c d] w fun e w' => e = .returned (.bool (multiB a b c d)) ∧ Below w.heap.size w w' := by
  unfold av
  go_enter Tryd.func10, Tryd.ntmps10
  go_wp2
  all_goals
    go_ret
    refine ⟨congrArg (fun b => Ending.returned (.bool b)) ?_, by go_grown⟩
    first | rfl | (unfold multiB; (try unfold sameB); rw [Bool.eq_iff_iff]; simp; done) | (unfold multiB; (try unfold sameB); rw [Bool.eq_iff_iff]; simp at *; omega)
set_option maxHeartbeats 1000000 in
theorem rmulti_any (a b c d : Int) (h0 : 0 ≤ a) (h1 : a ≤ 255) (w : World) :
    Calls Tryd.prog 11 #[av a b c d] w fun e w' => e = .returned (.bool (multiB a b c d)) ∧ Below w.heap.size w w' := by
  unfold av
  go_enter Tryd.func11, Tryd.ntmps11
  go_wp2
  all_goals
    go_ret
    refine ⟨congrArg (fun b => Ending.returned (.bool b)) ?_, by go_grown⟩
    first | rfl | (unfold multiB; (try unfold sameB); rw [Bool.eq_iff_iff]; simp; done) | (unfold multiB; (try unfold sameB); rw [Bool.eq_iff_iff]; simp at *; omega)
end Go.Proofs.YtdnjgknnckoagaaDoor
