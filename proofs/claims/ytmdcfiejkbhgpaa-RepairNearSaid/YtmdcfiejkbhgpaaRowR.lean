/-
  From the reading of an argument to the list that a slice reads as: of whatever elements.
-/
import Derived.Test.YtmdcfiejkbhgpaaRows
import Derived.Test.YtmdcfiejkbhgpaaMem
import Derived.ProofKit
import Derived.OpenShut
import Derived.Deep.SlicePairs
import Derived.Test.YtmdcfiejkbhgpaaREq
import Derived.Test.YtmdcfiejkbhgpaaRepB
namespace Go.Proofs.Ytmdcfiejkbhgpaa
open Go.ChangeShapes Go.WideShapes Go.ChangeAt Go.RowKit Go.Deep

theorem own : ownKnob Try.prog.godebug = none := by kernel_rfl
theorem laidOut : laidOutB Try.prog = true := by kernel_rfl

section
variable {H : Type} {enc : TypeId × Value → H} {w : World} {base : Nat} {spare : Nat → Bool} {held : Bool}
theorem int_cell {fuel : Nat} {cs : List Value} {x : DataW H × List MemPlace} (h : DataW.trod enc Try.prog w base spare held fuel 3 cs = some x) : ∃ n : Int, cs = [.int .i64 n] ∧ -9223372036854775808 ≤ n ∧ n ≤ 9223372036854775807 := by
  obtain ⟨n, hv, -, hw⟩ := DataW.trod_int Try.underlying3 h
  refine ⟨n, hv, ?_⟩
  simpa [Lit.wf, IntKind.min, IntKind.max, IntKind.signed, IntKind.bits] using hw

theorem open_rows {α : Type} [Inhabited α] {en : α → List Value} {k : Nat} (hk : ∀ x, (en x).length = k) (hk0 : 0 < k) {P : Program} {t e : TypeId} (ht : P.underlying t = some (.slice e)) (ce : P.cellsOf e = k) {Q : α → Prop}
    (elem : ∀ (n : Nat) (cs : List Value) (y : DataW H × List MemPlace), cs.length = k → DataW.trod enc P w base spare held n e cs = some y → ∃ x, cs = en x ∧ Q x)
    {fuel : Nat} {a : Option Addr} {len cap : Nat} {x : DataW H × List MemPlace} (h : DataW.trod enc P w base spare held fuel t [.slice a len cap] = some x) : ∃ l, Rd en k w a len l ∧ len ≤ maxLen ∧ ∀ x ∈ l, Q x := by
  rcases open_slice ht h with ⟨hcs, _⟩ | ⟨a', len', cap', m, n, D, Pl, hcs, _, hl, hm, hmm, _, hi⟩
  · simp at hcs
    obtain ⟨rfl, rfl, rfl⟩ := hcs
    exact ⟨[], Rd.nil _ _, Nat.zero_le _, fun x hx => by simp at hx⟩
  · simp at hcs
    obtain ⟨rfl, rfl, rfl⟩ := hcs
    have hlm : len ≤ m := by rw [hmm]; split <;> omega
    have hz : ∀ i, i < len → ∃ q : α, (∀ j u, (en q)[j]? = some u → w.cell? ((a'.add (i * k)).add j) = some u) ∧ Q q := by
      intro i hil
      obtain ⟨cs, h1, h2⟩ := hi i (by omega)
      rw [ce] at h1
      obtain ⟨_, hlen, hcell⟩ := World.cells?_some h1
      obtain ⟨q, rfl, hq⟩ := elem _ _ _ hlen h2
      refine ⟨q, fun j u hu => ?_, hq⟩
      have hj : j < k := by have := (List.getElem?_eq_some_iff.1 hu).1; rwa [hk] at this
      rw [hcell j hj, hu]
    obtain ⟨f, hf⟩ := choose_lt hz
    refine ⟨(List.range len).map f, ⟨by simp, fun i x hx => ?_⟩, by omega, fun x hx => ?_⟩
    · have hil : i < len := by
        have := (List.getElem?_eq_some_iff.1 hx).1
        simpa using this
      have hx' : f i = x := by
        rw [List.getElem?_map, List.getElem?_range hil] at hx
        exact Option.some.inj hx
      have h0 := (hf i hil).1
      rw [hx'] at h0
      obtain ⟨b, off, spot⟩ := a'
      have hspot : spot = none := by
        obtain ⟨u, hu⟩ := at_lt (hk (f 0)) hk0
        have hz0 := (hf 0 (by omega)).1 0 u hu
        simpa [Addr.add] using World.cell?_spot hz0
      subst hspot
      refine ⟨b, off, rfl, fun j u hu => ?_⟩
      have h1 := h0 j u hu
      rw [add_plain, add_plain] at h1
      exact h1
    · obtain ⟨i, hi', rfl⟩ := List.mem_map.1 hx
      exact (hf i (List.mem_range.1 hi')).2
end

end Go.Proofs.Ytmdcfiejkbhgpaa
/-
  From the reading of an argument to what the walks ask: graphs, ways.
-/
namespace Go.Proofs.Ytmdcfiejkbhgpaa
open Go.ChangeShapes Go.WideShapes Go.ChangeAt Go.RowKit Go.Deep

section
variable {H : Type} {enc : TypeId × Value → H} {w : World} {base b0 : Nat} {spare : Nat → Bool} {held : Bool} {r : Reach}
set_option maxRecDepth 100000 in
theorem open_link {fuel : Nat} {cs : List Value} {x : DataW H × List MemPlace} (h : DataW.trod enc Try.prog w base spare held fuel 34 cs = some x) : ∃ z : Lk, cs = lkc z ∧ True := by
  obtain ⟨xs, n, -, -, hl, hxl, hf⟩ := DataW.trod_struct Try.underlying34 h
  rw [show Try.prog.cellsOf 34 = 3 by kernel_rfl] at hl
  have cI : Try.prog.cellsOf 3 = 1 := by kernel_rfl
  match cs, hl with
  | [c0, c1, c2], _ =>
    have f0 : DataW.trod enc Try.prog w base spare held n 3 (List.take (Try.prog.cellsOf 3) (List.drop 0 [c0, c1, c2])) = xs[0]? := hf 0 _ rfl
    have f1 : DataW.trod enc Try.prog w base spare held n 3 (List.take (Try.prog.cellsOf 3) (List.drop 1 [c0, c1, c2])) = xs[1]? := hf 1 _ rfl
    have f2 : DataW.trod enc Try.prog w base spare held n 3 (List.take (Try.prog.cellsOf 3) (List.drop 2 [c0, c1, c2])) = xs[2]? := hf 2 _ rfl
    obtain ⟨x0, e0⟩ := at_lt hxl (show 0 < 3 by decide)
    obtain ⟨x1, e1⟩ := at_lt hxl (show 1 < 3 by decide)
    obtain ⟨x2, e2⟩ := at_lt hxl (show 2 < 3 by decide)
    rw [e0] at f0; rw [e1] at f1; rw [e2] at f2
    rw [cI] at f0 f1 f2
    obtain ⟨n0, h0, -⟩ := int_cell f0
    obtain ⟨n1, h1, -⟩ := int_cell f1
    obtain ⟨n2, h2, -⟩ := int_cell f2
    simp at h0 h1 h2
    subst h0; subst h1; subst h2
    exact ⟨⟨n0, n1, n2⟩, rfl, trivial⟩
theorem open_links {fuel : Nat} {a : Option Addr} {len cap : Nat} {x : DataW H × List MemPlace} (h : DataW.trod enc Try.prog w base spare held fuel 22 [.slice a len cap] = some x) : ∃ l, Rd lkc 3 w a len l ∧ len ≤ maxLen := by
  obtain ⟨l, h1, h2, -⟩ := open_rows (Q := fun _ => True) lkc_len (by decide) Try.underlying22 (by kernel_rfl) (fun n cs y hc hy => open_link hy) h
  exact ⟨l, h1, h2⟩
theorem links_cell {fuel : Nat} {cs : List Value} {x : DataW H × List MemPlace} (h : DataW.trod enc Try.prog w base spare held fuel 22 cs = some x) : ∃ a len cap l, cs = [.slice a len cap] ∧ Rd lkc 3 w a len l ∧ len ≤ maxLen := by
  rcases open_slice Try.underlying22 h with ⟨rfl, _⟩ | ⟨a', len', cap', m, n, D, Pl, rfl, -⟩
  · obtain ⟨l, h1, h2⟩ := open_links h
    exact ⟨_, _, _, l, rfl, h1, h2⟩
  · obtain ⟨l, h1, h2⟩ := open_links h
    exact ⟨_, _, _, l, rfl, h1, h2⟩
/-- a row of numbers, and room for it -/
theorem open_way {fuel : Nat} {a : Option Addr} {len cap : Nat} {x : DataW H × List MemPlace} (h : DataW.trod enc Try.prog w base spare held fuel 29 [.slice a len cap] = some x) : ∃ l, Rd intc 1 w a len l ∧ len ≤ maxLen ∧ len ≤ cap := by
  obtain ⟨l, h1, h2, -⟩ := open_rows (Q := fun _ => True) intc_len (by decide) Try.underlying29 (by kernel_rfl) (fun n cs y hc hy => by
    obtain ⟨m, rfl, -⟩ := int_cell hy
    exact ⟨m, rfl, trivial⟩) h
  refine ⟨l, h1, h2, ?_⟩
  rcases open_slice Try.underlying29 h with ⟨hcs, _⟩ | ⟨a', len', cap', m, n, D, Pl, hcs, _, hl, _⟩
  · simp at hcs
    obtain ⟨rfl, rfl, rfl⟩ := hcs
    exact Nat.le_refl _
  · simp at hcs
    obtain ⟨rfl, rfl, rfl⟩ := hcs
    exact hl
set_option maxRecDepth 100000 in
theorem open_graph {fuel : Nat} {v : Value} {x : DataW H × List MemPlace} (hv : Value.okWide Try.prog w r b0 24 v) (h : DataW.trod enc Try.prog w base spare held fuel 24 v.cells.toList = some x) :
    ∃ (n : Int) (A : Option Addr) (m c : Nat) (s t a b : Int) (l : List Lk), v = .agg #[.int .i64 n, .slice A m c, .int .i64 s, .int .i64 t, .int .i64 a, .int .i64 b] ∧ Rd lkc 3 w A m l ∧ m ≤ maxLen := by
  obtain ⟨cs, rfl, -⟩ := okWide_struct Try.underlying24 hv
  change DataW.trod enc Try.prog w base spare held fuel 24 cs.toList = some x at h
  obtain ⟨xs, n, -, -, hl, hxl, hf⟩ := DataW.trod_struct Try.underlying24 h
  rw [show Try.prog.cellsOf 24 = 6 by kernel_rfl] at hl
  have cI : Try.prog.cellsOf 3 = 1 := by kernel_rfl
  have cS : Try.prog.cellsOf 22 = 1 := by kernel_rfl
  obtain ⟨cs⟩ := cs
  simp only at hl hf
  match cs, hl with
  | [c0, c1, c2, c3, c4, c5], _ =>
    have f0 : DataW.trod enc Try.prog w base spare held n 3 (List.take (Try.prog.cellsOf 3) (List.drop 0 [c0, c1, c2, c3, c4, c5])) = xs[0]? := hf 0 _ rfl
    have f1 : DataW.trod enc Try.prog w base spare held n 22 (List.take (Try.prog.cellsOf 22) (List.drop 1 [c0, c1, c2, c3, c4, c5])) = xs[1]? := hf 1 _ rfl
    have f2 : DataW.trod enc Try.prog w base spare held n 3 (List.take (Try.prog.cellsOf 3) (List.drop 2 [c0, c1, c2, c3, c4, c5])) = xs[2]? := hf 2 _ rfl
    have f3 : DataW.trod enc Try.prog w base spare held n 3 (List.take (Try.prog.cellsOf 3) (List.drop 3 [c0, c1, c2, c3, c4, c5])) = xs[3]? := hf 3 _ rfl
    have f4 : DataW.trod enc Try.prog w base spare held n 3 (List.take (Try.prog.cellsOf 3) (List.drop 4 [c0, c1, c2, c3, c4, c5])) = xs[4]? := hf 4 _ rfl
    have f5 : DataW.trod enc Try.prog w base spare held n 3 (List.take (Try.prog.cellsOf 3) (List.drop 5 [c0, c1, c2, c3, c4, c5])) = xs[5]? := hf 5 _ rfl
    obtain ⟨x0, e0⟩ := at_lt hxl (show 0 < 6 by decide)
    obtain ⟨x1, e1⟩ := at_lt hxl (show 1 < 6 by decide)
    obtain ⟨x2, e2⟩ := at_lt hxl (show 2 < 6 by decide)
    obtain ⟨x3, e3⟩ := at_lt hxl (show 3 < 6 by decide)
    obtain ⟨x4, e4⟩ := at_lt hxl (show 4 < 6 by decide)
    obtain ⟨x5, e5⟩ := at_lt hxl (show 5 < 6 by decide)
    rw [e0] at f0; rw [e1] at f1; rw [e2] at f2; rw [e3] at f3; rw [e4] at f4; rw [e5] at f5
    rw [cI] at f0 f2 f3 f4 f5
    rw [cS] at f1
    obtain ⟨n0, h0, -⟩ := int_cell f0
    obtain ⟨A, m, c, l, h1, r1, b1⟩ := links_cell f1
    obtain ⟨n2, h2, -⟩ := int_cell f2
    obtain ⟨n3, h3, -⟩ := int_cell f3
    obtain ⟨n4, h4, -⟩ := int_cell f4
    obtain ⟨n5, h5, -⟩ := int_cell f5
    simp at h0 h1 h2 h3 h4 h5
    subst h0; subst h1; subst h2; subst h3; subst h4; subst h5
    exact ⟨n0, A, m, c, n2, n3, n4, n5, l, rfl, r1, b1⟩
end
end Go.Proofs.Ytmdcfiejkbhgpaa
/-
  From the reading of an argument to what the walks of repair ask: graphs, steps.
-/
namespace Go.Proofs.Ytmdcfiejkbhgpaa
open Go.ChangeShapes Go.WideShapes Go.ChangeAt Go.RowKit Go.Deep

section
variable {H : Type} {enc : TypeId × Value → H} {w : World} {base b0 : Nat} {spare : Nat → Bool} {held : Bool} {r : Reach}
set_option maxRecDepth 100000 in
theorem open_graphr {fuel : Nat} {v : Value} {x : DataW H × List MemPlace} (hv : Value.okWide Try.prog w r b0 42 v) (h : DataW.trod enc Try.prog w base spare held fuel 42 v.cells.toList = some x) :
    ∃ (n : Int) (A : Option Addr) (m c : Nat) (s e d : Int) (l : List Lk), v = .agg #[.int .i64 n, .slice A m c, .int .i64 s, .int .i64 e, .int .i64 d] ∧ Rd lkc 3 w A m l ∧ m ≤ maxLen := by
  obtain ⟨cs, rfl, -⟩ := okWide_struct Try.underlying42 hv
  change DataW.trod enc Try.prog w base spare held fuel 42 cs.toList = some x at h
  obtain ⟨xs, n, -, -, hl, hxl, hf⟩ := DataW.trod_struct Try.underlying42 h
  rw [show Try.prog.cellsOf 42 = 5 by kernel_rfl] at hl
  have cI : Try.prog.cellsOf 3 = 1 := by kernel_rfl
  have cS : Try.prog.cellsOf 22 = 1 := by kernel_rfl
  obtain ⟨cs⟩ := cs
  simp only at hl hf
  match cs, hl with
  | [c0, c1, c2, c3, c4], _ =>
    have f0 : DataW.trod enc Try.prog w base spare held n 3 (List.take (Try.prog.cellsOf 3) (List.drop 0 [c0, c1, c2, c3, c4])) = xs[0]? := hf 0 _ rfl
    have f1 : DataW.trod enc Try.prog w base spare held n 22 (List.take (Try.prog.cellsOf 22) (List.drop 1 [c0, c1, c2, c3, c4])) = xs[1]? := hf 1 _ rfl
    have f2 : DataW.trod enc Try.prog w base spare held n 3 (List.take (Try.prog.cellsOf 3) (List.drop 2 [c0, c1, c2, c3, c4])) = xs[2]? := hf 2 _ rfl
    have f3 : DataW.trod enc Try.prog w base spare held n 3 (List.take (Try.prog.cellsOf 3) (List.drop 3 [c0, c1, c2, c3, c4])) = xs[3]? := hf 3 _ rfl
    have f4 : DataW.trod enc Try.prog w base spare held n 3 (List.take (Try.prog.cellsOf 3) (List.drop 4 [c0, c1, c2, c3, c4])) = xs[4]? := hf 4 _ rfl
    obtain ⟨x0, e0⟩ := at_lt hxl (show 0 < 5 by decide)
    obtain ⟨x1, e1⟩ := at_lt hxl (show 1 < 5 by decide)
    obtain ⟨x2, e2⟩ := at_lt hxl (show 2 < 5 by decide)
    obtain ⟨x3, e3⟩ := at_lt hxl (show 3 < 5 by decide)
    obtain ⟨x4, e4⟩ := at_lt hxl (show 4 < 5 by decide)
    rw [e0] at f0; rw [e1] at f1; rw [e2] at f2; rw [e3] at f3; rw [e4] at f4
    rw [cI] at f0 f2 f3 f4
    rw [cS] at f1
    obtain ⟨n0, h0, -⟩ := int_cell f0
    obtain ⟨A, m, c, l, h1, r1, b1⟩ := links_cell f1
    obtain ⟨n2, h2, -⟩ := int_cell f2
    obtain ⟨n3, h3, -⟩ := int_cell f3
    obtain ⟨n4, h4, -⟩ := int_cell f4
    simp at h0 h1 h2 h3 h4
    subst h0; subst h1; subst h2; subst h3; subst h4
    exact ⟨n0, A, m, c, n2, n3, n4, l, rfl, r1, b1⟩
set_option maxRecDepth 100000 in
theorem open_step {fuel : Nat} {cs : List Value} {x : DataW H × List MemPlace} (h : DataW.trod enc Try.prog w base spare held fuel 80 cs = some x) : ∃ z : St, cs = stc z ∧ True := by
  obtain ⟨xs, n, -, -, hl, hxl, hf⟩ := DataW.trod_struct Try.underlying80 h
  rw [show Try.prog.cellsOf 80 = 3 by kernel_rfl] at hl
  have cI : Try.prog.cellsOf 3 = 1 := by kernel_rfl
  have cB : Try.prog.cellsOf 4 = 1 := by kernel_rfl
  match cs, hl with
  | [c0, c1, c2], _ =>
    have f0 : DataW.trod enc Try.prog w base spare held n 4 (List.take (Try.prog.cellsOf 4) (List.drop 0 [c0, c1, c2])) = xs[0]? := hf 0 _ rfl
    have f1 : DataW.trod enc Try.prog w base spare held n 3 (List.take (Try.prog.cellsOf 3) (List.drop 1 [c0, c1, c2])) = xs[1]? := hf 1 _ rfl
    have f2 : DataW.trod enc Try.prog w base spare held n 3 (List.take (Try.prog.cellsOf 3) (List.drop 2 [c0, c1, c2])) = xs[2]? := hf 2 _ rfl
    obtain ⟨x0, e0⟩ := at_lt hxl (show 0 < 3 by decide)
    obtain ⟨x1, e1⟩ := at_lt hxl (show 1 < 3 by decide)
    obtain ⟨x2, e2⟩ := at_lt hxl (show 2 < 3 by decide)
    rw [e0] at f0; rw [e1] at f1; rw [e2] at f2
    rw [cB] at f0
    rw [cI] at f1 f2
    obtain ⟨n0, h0, -⟩ := DataW.trod_bool Try.underlying4 f0
    obtain ⟨n1, h1, -⟩ := int_cell f1
    obtain ⟨n2, h2, -⟩ := int_cell f2
    simp at h0 h1 h2
    subst h0; subst h1; subst h2
    exact ⟨⟨n0, n1, n2⟩, rfl, trivial⟩
theorem open_script28 {fuel : Nat} {a : Option Addr} {len cap : Nat} {x : DataW H × List MemPlace} (h : DataW.trod enc Try.prog w base spare held fuel 49 [.slice a len cap] = some x) : ∃ l, Rd stc 3 w a len l ∧ len ≤ maxLen := by
  obtain ⟨l, h1, h2, -⟩ := open_rows (Q := fun _ => True) stc_len (by decide) Try.underlying49 (by kernel_rfl) (fun n cs y hc hy => open_step hy) h
  exact ⟨l, h1, h2⟩
end
end Go.Proofs.Ytmdcfiejkbhgpaa
