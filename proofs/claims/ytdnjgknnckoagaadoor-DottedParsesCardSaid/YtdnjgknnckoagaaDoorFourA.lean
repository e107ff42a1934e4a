/-
  From the reading of an argument of four numbers to the numbers.
-/
import Derived.Test.YtdnjgknnckoagaaDoorNumbersW
import Derived.Test.YtdnjgknnckoagaaDoorLaidT
namespace Go.Proofs.YtdnjgknnckoagaaDoor
open Go.ChangeShapes Go.WideShapes Go.ChangeAt Go.RowKit Go.Deep

theorem okWide_array {P : Program} {w : World} {r : Reach} {base : Nat} {t : TypeId} {v : Value} {n : Nat} {e : TypeId} (ht : P.underlying t = some (.array n e)) (h : Value.okWide P w r base t v) : ∃ cs, v = .agg cs ∧ cs.size = P.cellsOf t := by
  simp only [Value.okWide, ht] at h
  obtain ⟨cs, h1, h2, _⟩ := h
  exact ⟨cs, h1, h2⟩
section
variable {H : Type} {enc : TypeId × Value → H} {w : World} {base b0 : Nat} {spare : Nat → Bool} {held : Bool} {r : Reach}
theorem four_cells {P : Program} {k : IntKind} {t e : TypeId} {fuel : Nat} {cs : List Value} {x : DataW H × List MemPlace} (ht : P.underlying t = some (.array 4 e)) (he : P.underlying e = some (.int k)) (ce : P.cellsOf e = 1) (ct : P.cellsOf t = 4)
    (h : DataW.trod enc P w base spare held fuel t cs = some x) : ∃ a b c d : Int, cs = [.int k a, .int k b, .int k c, .int k d] ∧ (Lit.int k a).wf = true ∧ (Lit.int k b).wf = true ∧ (Lit.int k c).wf = true ∧ (Lit.int k d).wf = true := by
  obtain ⟨xs, m, -, -, hl, hxl, hel⟩ := DataW.trod_array ht h
  rw [ct] at hl
  match cs, hl with
  | [c0, c1, c2, c3], _ =>
    have f0 := hel 0 (by decide)
    have f1 := hel 1 (by decide)
    have f2 := hel 2 (by decide)
    have f3 := hel 3 (by decide)
    obtain ⟨x0, e0⟩ := at_lt hxl (show 0 < 4 by decide)
    obtain ⟨x1, e1⟩ := at_lt hxl (show 1 < 4 by decide)
    obtain ⟨x2, e2⟩ := at_lt hxl (show 2 < 4 by decide)
    obtain ⟨x3, e3⟩ := at_lt hxl (show 3 < 4 by decide)
    rw [e0, ce] at f0; rw [e1, ce] at f1; rw [e2, ce] at f2; rw [e3, ce] at f3
    obtain ⟨a, h0, -, w0⟩ := DataW.trod_int he f0
    obtain ⟨b, h1, -, w1⟩ := DataW.trod_int he f1
    obtain ⟨c, h2, -, w2⟩ := DataW.trod_int he f2
    obtain ⟨d, h3, -, w3⟩ := DataW.trod_int he f3
    simp at h0 h1 h2 h3
    subst h0; subst h1; subst h2; subst h3
    exact ⟨a, b, c, d, rfl, w0, w1, w2, w3⟩
theorem open_four {fuel : Nat} {v : Value} {x : DataW H × List MemPlace} (hv : Value.okWide Tryd.prog w r b0 22 v) (h : DataW.trod enc Tryd.prog w base spare held fuel 22 v.cells.toList = some x) :
    ∃ a b c d : Int, v = av a b c d ∧ by8 a ∧ by8 b ∧ by8 c ∧ by8 d := by
  obtain ⟨cs, rfl, -⟩ := okWide_array Tryd.underlying22 hv
  change DataW.trod enc Tryd.prog w base spare held fuel 22 cs.toList = some x at h
  obtain ⟨a, b, c, d, hcs, w0, w1, w2, w3⟩ := four_cells Tryd.underlying22 Tryd.underlying5 (by kernel_rfl) (by kernel_rfl) h
  refine ⟨a, b, c, d, ?_, ?_, ?_, ?_, ?_⟩
  · obtain ⟨l⟩ := cs
    simp at hcs
    rw [hcs]; rfl
  · simpa [by8, Lit.wf, IntKind.min, IntKind.max, IntKind.signed, IntKind.bits] using w0
  · simpa [by8, Lit.wf, IntKind.min, IntKind.max, IntKind.signed, IntKind.bits] using w1
  · simpa [by8, Lit.wf, IntKind.min, IntKind.max, IntKind.signed, IntKind.bits] using w2
  · simpa [by8, Lit.wf, IntKind.min, IntKind.max, IntKind.signed, IntKind.bits] using w3
theorem open_fourI {fuel : Nat} {v : Value} {x : DataW H × List MemPlace} (hv : Value.okWide Tryd.prog w r b0 30 v) (h : DataW.trod enc Tryd.prog w base spare held fuel 30 v.cells.toList = some x) :
    ∃ a b c d : Int, v = numv a b c d ∧ i64 a ∧ i64 b ∧ i64 c ∧ i64 d := by
  obtain ⟨cs, rfl, -⟩ := okWide_array Tryd.underlying30 hv
  change DataW.trod enc Tryd.prog w base spare held fuel 30 cs.toList = some x at h
  obtain ⟨a, b, c, d, hcs, w0, w1, w2, w3⟩ := four_cells Tryd.underlying30 Tryd.underlying3 (by kernel_rfl) (by kernel_rfl) h
  refine ⟨a, b, c, d, ?_, ?_, ?_, ?_, ?_⟩
  · obtain ⟨l⟩ := cs
    simp at hcs
    rw [hcs]; rfl
  · simpa [i64, Lit.wf, IntKind.min, IntKind.max, IntKind.signed, IntKind.bits] using w0
  · simpa [i64, Lit.wf, IntKind.min, IntKind.max, IntKind.signed, IntKind.bits] using w1
  · simpa [i64, Lit.wf, IntKind.min, IntKind.max, IntKind.signed, IntKind.bits] using w2
  · simpa [i64, Lit.wf, IntKind.min, IntKind.max, IntKind.signed, IntKind.bits] using w3
end
end Go.Proofs.YtdnjgknnckoagaaDoor
