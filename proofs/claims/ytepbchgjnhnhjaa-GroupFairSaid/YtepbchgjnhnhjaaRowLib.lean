/-
  From the reading of an argument to what the walks ask of a slice of ways.
-/
import Derived.Test.YtepbchgjnhnhjaaRows
import Derived.Test.YtepbchgjnhnhjaaTells
import Derived.ProofKit
import Derived.OpenShut
import Derived.Deep.SlicePairs
namespace Go.Proofs.Ytepbchgjnhnhjaa
open Go.ChangeShapes Go.WideShapes Go.ChangeAt Go.RowKit Go.Deep
set_option linter.unusedVariables false

theorem own : ownKnob Try.prog.godebug = none := by kernel_rfl
theorem laidOut : laidOutB Try.prog = true := by kernel_rfl

theorem int_field {H : Type} {enc : TypeId × Value → H} {w : World} {base : Nat} {spare : Nat → Bool} {held : Bool} {fuel : Nat} {v : Value} {x : DataW H × List MemPlace}
    (h : DataW.trod enc Try.prog w base spare held fuel 3 [v] = some x) : ∃ n : Int, v = .int .i64 n ∧ -9223372036854775808 ≤ n ∧ n ≤ 9223372036854775807 := by
  obtain ⟨n, hv, -, hw⟩ := DataW.trod_int Try.underlying3 h
  refine ⟨n, by simpa using hv, ?_⟩
  simpa [Lit.wf, IntKind.min, IntKind.max, IntKind.signed, IntKind.bits] using hw

theorem open_ways {H : Type} {enc : TypeId × Value → H} {w : World} {held : Bool} {fuel : Nat} {a : Option Addr} {len cap : Nat} {x : DataW H × List MemPlace}
    (h : DataW.trod enc Try.prog w 0 (fun _ => true) held fuel 22 [.slice a len cap] = some x) : ∃ l, Given w a len cap l := by
  rcases open_slice_pairs Try.underlying22 Try.underlying37 (by kernel_rfl) rfl rfl (by kernel_rfl) (by kernel_rfl) h with ⟨hcs, _⟩ | ⟨a', len', cap', m, n, V0, V1, D0, D1, P0, P1, hcs, _, hl, hm, hmm, _, hi⟩
  · simp at hcs
    obtain ⟨rfl, rfl, rfl⟩ := hcs
    exact ⟨[], ⟨rfl, fun i x hx => by simp at hx⟩, Nat.le_refl _, fun x hx => by simp at hx⟩
  · simp at hcs
    obtain ⟨rfl, rfl, rfl⟩ := hcs
    simp at hmm
    subst hmm
    have hz : ∀ i, i < len → ∃ q : Int × Int, w.cell? (a'.add (i * 2)) = some (.int .i64 q.1) ∧ w.cell? (a'.add (i * 2 + 1)) = some (.int .i64 q.2) ∧ -9223372036854775808 ≤ q.2 ∧ q.2 ≤ 9223372036854775807 := by
      intro i hil
      obtain ⟨h0, h1, h2, h3⟩ := hi i (by omega)
      obtain ⟨n0, e0, -⟩ := int_field h2
      obtain ⟨n1, e1, hn1⟩ := int_field h3
      exact ⟨(n0, n1), by rw [h0, e0], by rw [h1, e1], hn1⟩
    obtain ⟨f, hf⟩ := choose_lt hz
    refine ⟨(List.range len).map f, ⟨by simp, fun i x hx => ?_⟩, hl, fun x hx => ?_⟩
    · have hil : i < len := by
        have := (List.getElem?_eq_some_iff.1 hx).1
        simpa using this
      have hx' : f i = x := by
        rw [List.getElem?_map, List.getElem?_range hil] at hx
        exact Option.some.inj hx
      obtain ⟨h0, h1, -⟩ := hf i hil
      rw [hx'] at h0 h1
      obtain ⟨b, off, spot⟩ := a'
      have hspot : spot = none := by
        have hz0 := (hf 0 (by omega)).1
        simpa [Addr.add] using World.cell?_spot hz0
      subst hspot
      refine ⟨b, off, rfl, ?_, ?_⟩
      · rw [add_plain] at h0; exact h0
      · rw [add_plain] at h1; rw [Nat.add_assoc]; exact h1
    · obtain ⟨i, hi', rfl⟩ := List.mem_map.1 hx
      exact (hf i (List.mem_range.1 hi')).2.2

end Go.Proofs.Ytepbchgjnhnhjaa
