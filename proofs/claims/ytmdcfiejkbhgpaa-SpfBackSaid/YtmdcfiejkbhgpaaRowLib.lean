/-
  From the reading of an argument to what the walks ask: graphs, ways.
-/
import Derived.Test.YtmdcfiejkbhgpaaOpen
import Derived.Test.YtmdcfiejkbhgpaaREq
namespace Go.Proofs.Ytmdcfiejkbhgpaa
open Go.ChangeShapes Go.WideShapes Go.ChangeAt Go.RowKit Go.Deep

section
variable {H : Type} {enc : TypeId × Value → H} {w : World} {base b0 : Nat} {spare : Nat → Bool} {held : Bool} {r : Reach}
set_option maxRecDepth 100000 in
theorem open_link {fuel : Nat} {cs : List Value} {x : DataW H × List MemPlace} (h : DataW.trod enc Try.prog w base spare held fuel 34 cs = some x) : ∃ z : Lk, cs = lkc z ∧ True := by
  obtain ⟨xs, n, -, -, hl, hxl, hf⟩ := DataW.trod_struct Try.underlying34 h
  rw [show Try.prog.cellsOf 34 = 3 by kernel_rfl] at hl
  have cI : Try.prog.cellsOf 3 = 1 := by kernel_rfl
  match cs, hl with
  | [c0, c1, c2], _ =>
    have f0 : DataW.trod enc Try.prog w base spare held n 3 (List.take (Try.prog.cellsOf 3) (List.drop 0 [c0, c1, c2])) = xs[0]? := hf 0 _ rfl
    have f1 : DataW.trod enc Try.prog w base spare held n 3 (List.take (Try.prog.cellsOf 3) (List.drop 1 [c0, c1, c2])) = xs[1]? := hf 1 _ rfl
    have f2 : DataW.trod enc Try.prog w base spare held n 3 (List.take (Try.prog.cellsOf 3) (List.drop 2 [c0, c1, c2])) = xs[2]? := hf 2 _ rfl
    obtain ⟨x0, e0⟩ := at_lt hxl (show 0 < 3 by decide)
    obtain ⟨x1, e1⟩ := at_lt hxl (show 1 < 3 by decide)
    obtain ⟨x2, e2⟩ := at_lt hxl (show 2 < 3 by decide)
    rw [e0] at f0; rw [e1] at f1; rw [e2] at f2
    rw [cI] at f0 f1 f2
    obtain ⟨n0, h0, -⟩ := int_cell f0
    obtain ⟨n1, h1, -⟩ := int_cell f1
    obtain ⟨n2, h2, -⟩ := int_cell f2
    simp at h0 h1 h2
    subst h0; subst h1; subst h2
    exact ⟨⟨n0, n1, n2⟩, rfl, trivial⟩
theorem open_links {fuel : Nat} {a : Option Addr} {len cap : Nat} {x : DataW H × List MemPlace} (h : DataW.trod enc Try.prog w base spare held fuel 22 [.slice a len cap] = some x) : ∃ l, Rd lkc 3 w a len l ∧ len ≤ maxLen := by
  obtain ⟨l, h1, h2, -⟩ := open_rows (Q := fun _ => True) lkc_len (by decide) Try.underlying22 (by kernel_rfl) (fun n cs y hc hy => open_link hy) h
  exact ⟨l, h1, h2⟩
theorem links_cell {fuel : Nat} {cs : List Value} {x : DataW H × List MemPlace} (h : DataW.trod enc Try.prog w base spare held fuel 22 cs = some x) : ∃ a len cap l, cs = [.slice a len cap] ∧ Rd lkc 3 w a len l ∧ len ≤ maxLen := by
  rcases open_slice Try.underlying22 h with ⟨rfl, _⟩ | ⟨a', len', cap', m, n, D, Pl, rfl, -⟩
  · obtain ⟨l, h1, h2⟩ := open_links h
    exact ⟨_, _, _, l, rfl, h1, h2⟩
  · obtain ⟨l, h1, h2⟩ := open_links h
    exact ⟨_, _, _, l, rfl, h1, h2⟩
/-- a row of numbers, and room for it -/
theorem open_way {fuel : Nat} {a : Option Addr} {len cap : Nat} {x : DataW H × List MemPlace} (h : DataW.trod enc Try.prog w base spare held fuel 29 [.slice a len cap] = some x) : ∃ l, Rd intc 1 w a len l ∧ len ≤ maxLen ∧ len ≤ cap := by
  obtain ⟨l, h1, h2, -⟩ := open_rows (Q := fun _ => True) intc_len (by decide) Try.underlying29 (by kernel_rfl) (fun n cs y hc hy => by
    obtain ⟨m, rfl, -⟩ := int_cell hy
    exact ⟨m, rfl, trivial⟩) h
  refine ⟨l, h1, h2, ?_⟩
  rcases open_slice Try.underlying29 h with ⟨hcs, _⟩ | ⟨a', len', cap', m, n, D, Pl, hcs, _, hl, _⟩
  · simp at hcs
    obtain ⟨rfl, rfl, rfl⟩ := hcs
    exact Nat.le_refl _
  · simp at hcs
    obtain ⟨rfl, rfl, rfl⟩ := hcs
    exact hl
set_option maxRecDepth 100000 in
theorem open_graph {fuel : Nat} {v : Value} {x : DataW H × List MemPlace} (hv : Value.okWide Try.prog w r b0 24 v) (h : DataW.trod enc Try.prog w base spare held fuel 24 v.cells.toList = some x) :
    ∃ (n : Int) (A : Option Addr) (m c : Nat) (s t a b : Int) (l : List Lk), v = .agg #[.int .i64 n, .slice A m c, .int .i64 s, .int .i64 t, .int .i64 a, .int .i64 b] ∧ Rd lkc 3 w A m l ∧ m ≤ maxLen := by
  obtain ⟨cs, rfl, -⟩ := okWide_struct Try.underlying24 hv
  change DataW.trod enc Try.prog w base spare held fuel 24 cs.toList = some x at h
  obtain ⟨xs, n, -, -, hl, hxl, hf⟩ := DataW.trod_struct Try.underlying24 h
  rw [show Try.prog.cellsOf 24 = 6 by kernel_rfl] at hl
  have cI : Try.prog.cellsOf 3 = 1 := by kernel_rfl
  have cS : Try.prog.cellsOf 22 = 1 := by kernel_rfl
  obtain ⟨cs⟩ := cs
  simp only at hl hf
  match cs, hl with
  | [c0, c1, c2, c3, c4, c5], _ =>
    have f0 : DataW.trod enc Try.prog w base spare held n 3 (List.take (Try.prog.cellsOf 3) (List.drop 0 [c0, c1, c2, c3, c4, c5])) = xs[0]? := hf 0 _ rfl
    have f1 : DataW.trod enc Try.prog w base spare held n 22 (List.take (Try.prog.cellsOf 22) (List.drop 1 [c0, c1, c2, c3, c4, c5])) = xs[1]? := hf 1 _ rfl
    have f2 : DataW.trod enc Try.prog w base spare held n 3 (List.take (Try.prog.cellsOf 3) (List.drop 2 [c0, c1, c2, c3, c4, c5])) = xs[2]? := hf 2 _ rfl
    have f3 : DataW.trod enc Try.prog w base spare held n 3 (List.take (Try.prog.cellsOf 3) (List.drop 3 [c0, c1, c2, c3, c4, c5])) = xs[3]? := hf 3 _ rfl
    have f4 : DataW.trod enc Try.prog w base spare held n 3 (List.take (Try.prog.cellsOf 3) (List.drop 4 [c0, c1, c2, c3, c4, c5])) = xs[4]? := hf 4 _ rfl
    have f5 : DataW.trod enc Try.prog w base spare held n 3 (List.take (Try.prog.cellsOf 3) (List.drop 5 [c0, c1, c2, c3, c4, c5])) = xs[5]? := hf 5 _ rfl
    obtain ⟨x0, e0⟩ := at_lt hxl (show 0 < 6 by decide)
    obtain ⟨x1, e1⟩ := at_lt hxl (show 1 < 6 by decide)
    obtain ⟨x2, e2⟩ := at_lt hxl (show 2 < 6 by decide)
    obtain ⟨x3, e3⟩ := at_lt hxl (show 3 < 6 by decide)
    obtain ⟨x4, e4⟩ := at_lt hxl (show 4 < 6 by decide)
    obtain ⟨x5, e5⟩ := at_lt hxl (show 5 < 6 by decide)
    rw [e0] at f0; rw [e1] at f1; rw [e2] at f2; rw [e3] at f3; rw [e4] at f4; rw [e5] at f5
    rw [cI] at f0 f2 f3 f4 f5
    rw [cS] at f1
    obtain ⟨n0, h0, -⟩ := int_cell f0
    obtain ⟨A, m, c, l, h1, r1, b1⟩ := links_cell f1
    obtain ⟨n2, h2, -⟩ := int_cell f2
    obtain ⟨n3, h3, -⟩ := int_cell f3
    obtain ⟨n4, h4, -⟩ := int_cell f4
    obtain ⟨n5, h5, -⟩ := int_cell f5
    simp at h0 h1 h2 h3 h4 h5
    subst h0; subst h1; subst h2; subst h3; subst h4; subst h5
    exact ⟨n0, A, m, c, n2, n3, n4, n5, l, rfl, r1, b1⟩
end
end Go.Proofs.Ytmdcfiejkbhgpaa
