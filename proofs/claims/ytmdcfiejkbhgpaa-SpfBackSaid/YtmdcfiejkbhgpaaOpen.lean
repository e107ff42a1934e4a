/-
  From the reading of an argument to the list that a slice reads as: of whatever elements.
-/
import Derived.Test.YtmdcfiejkbhgpaaRows
import Derived.Test.YtmdcfiejkbhgpaaMem
import Derived.ProofKit
import Derived.OpenShut
import Derived.Deep.SlicePairs
namespace Go.Proofs.Ytmdcfiejkbhgpaa
open Go.ChangeShapes Go.WideShapes Go.ChangeAt Go.RowKit Go.Deep

theorem own : ownKnob Try.prog.godebug = none := by kernel_rfl
theorem laidOut : laidOutB Try.prog = true := by kernel_rfl

section
variable {H : Type} {enc : TypeId × Value → H} {w : World} {base : Nat} {spare : Nat → Bool} {held : Bool}
theorem int_cell {fuel : Nat} {cs : List Value} {x : DataW H × List MemPlace} (h : DataW.trod enc Try.prog w base spare held fuel 3 cs = some x) : ∃ n : Int, cs = [.int .i64 n] ∧ -9223372036854775808 ≤ n ∧ n ≤ 9223372036854775807 := by
  obtain ⟨n, hv, -, hw⟩ := DataW.trod_int Try.underlying3 h
  refine ⟨n, hv, ?_⟩
  simpa [Lit.wf, IntKind.min, IntKind.max, IntKind.signed, IntKind.bits] using hw

theorem open_rows {α : Type} [Inhabited α] {en : α → List Value} {k : Nat} (hk : ∀ x, (en x).length = k) (hk0 : 0 < k) {P : Program} {t e : TypeId} (ht : P.underlying t = some (.slice e)) (ce : P.cellsOf e = k) {Q : α → Prop}
    (elem : ∀ (n : Nat) (cs : List Value) (y : DataW H × List MemPlace), cs.length = k → DataW.trod enc P w base spare held n e cs = some y → ∃ x, cs = en x ∧ Q x)
    {fuel : Nat} {a : Option Addr} {len cap : Nat} {x : DataW H × List MemPlace} (h : DataW.trod enc P w base spare held fuel t [.slice a len cap] = some x) : ∃ l, Rd en k w a len l ∧ len ≤ maxLen ∧ ∀ x ∈ l, Q x := by
  rcases open_slice ht h with ⟨hcs, _⟩ | ⟨a', len', cap', m, n, D, Pl, hcs, _, hl, hm, hmm, _, hi⟩
  · simp at hcs
    obtain ⟨rfl, rfl, rfl⟩ := hcs
    exact ⟨[], Rd.nil _ _, Nat.zero_le _, fun x hx => by simp at hx⟩
  · simp at hcs
    obtain ⟨rfl, rfl, rfl⟩ := hcs
    have hlm : len ≤ m := by rw [hmm]; split <;> omega
    have hz : ∀ i, i < len → ∃ q : α, (∀ j u, (en q)[j]? = some u → w.cell? ((a'.add (i * k)).add j) = some u) ∧ Q q := by
      intro i hil
      obtain ⟨cs, h1, h2⟩ := hi i (by omega)
      rw [ce] at h1
      obtain ⟨_, hlen, hcell⟩ := World.cells?_some h1
      obtain ⟨q, rfl, hq⟩ := elem _ _ _ hlen h2
      refine ⟨q, fun j u hu => ?_, hq⟩
      have hj : j < k := by have := (List.getElem?_eq_some_iff.1 hu).1; rwa [hk] at this
      rw [hcell j hj, hu]
    obtain ⟨f, hf⟩ := choose_lt hz
    refine ⟨(List.range len).map f, ⟨by simp, fun i x hx => ?_⟩, by omega, fun x hx => ?_⟩
    · have hil : i < len := by
        have := (List.getElem?_eq_some_iff.1 hx).1
        simpa using this
      have hx' : f i = x := by
        rw [List.getElem?_map, List.getElem?_range hil] at hx
        exact Option.some.inj hx
      have h0 := (hf i hil).1
      rw [hx'] at h0
      obtain ⟨b, off, spot⟩ := a'
      have hspot : spot = none := by
        obtain ⟨u, hu⟩ := at_lt (hk (f 0)) hk0
        have hz0 := (hf 0 (by omega)).1 0 u hu
        simpa [Addr.add] using World.cell?_spot hz0
      subst hspot
      refine ⟨b, off, rfl, fun j u hu => ?_⟩
      have h1 := h0 j u hu
      rw [add_plain, add_plain] at h1
      exact h1
    · obtain ⟨i, hi', rfl⟩ := List.mem_map.1 hx
      exact (hf i (List.mem_range.1 hi')).2
end

end Go.Proofs.Ytmdcfiejkbhgpaa
