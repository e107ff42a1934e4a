/-
  From the row's condition to the walks' facts: the two tables; a step's six cells.
-/
import Derived.Test.YtpkfmikpgfgbgaaDoorSteps
import Derived.Test.YtpkfmikpgfgbgaaDoorOpen
import Derived.LaidMore
import Derived.Lib.LaidTab
import Derived.Stop.Joined
namespace Go.Proofs.YtpkfmikpgfgbgaaDoor
open Go.ChangeShapes Go.WideShapes Go.ChangeAt Go.RowKit Go.Deep

def laidL : List (String × DataW Unit) := [("math/bits.deBruijn32tab", Rows.laid_math_bits_deBruijn32tab), ("math/bits.deBruijn64tab", Rows.laid_math_bits_deBruijn64tab), ("internal/strconv.uint64pow10", Rows.laid_internal_strconv_uint64pow10), ("footplate/forward.names", Rows.laid_footplate_forward_names)]
theorem pow_data : (Rows.laid_internal_strconv_uint64pow10 : DataW Unit) = Lib.tabData .u64 Lib.pow10Tab := rfl
def namesD : DataW Unit := .agg (nameL.map fun l => .lit (.string l))
theorem names_data : (Rows.laid_footplate_forward_names : DataW Unit) = namesD := rfl

section
variable {H : Type} {enc : TypeId × Value → H} {w : World} {base : Nat} {spare : Nat → Bool} {held : Bool}
theorem cells_of_strings {P : Program} {fuel : Nat} {t e : TypeId} {n : Nat} {cs : List Value} {zs : List (List UInt8)} {p : List MemPlace}
    (ht : P.underlying t = some (.array n e)) (he : P.underlying e = some .string) (hce : P.cellsOf e = 1) (hct : P.cellsOf t = n)
    (h : DataW.trod enc P w base spare held fuel t cs = some (.agg (zs.map fun l => .lit (.string l)), p)) : cs = zs.map fun l => Value.string (txt l) := by
  obtain ⟨xs, m, -, ex, hl, hxl, hel⟩ := DataW.trod_array ht h
  have e3 : (xs.map (·.1)) = zs.map fun l => (.lit (.string l) : DataW H) := (DataW.agg.inj (Prod.mk.inj ex).1).symm
  have hzl : zs.length = n := by
    have := congrArg List.length e3
    simp at this
    omega
  apply List.ext_getElem?
  intro i
  by_cases hi : i < n
  · have hE := hel i hi
    rw [hce, Nat.mul_one, List.getElem?_eq_getElem (by omega)] at hE
    obtain ⟨s, e1, e2, -⟩ := DataW.trod_string he hE
    have h1 : cs[i]? = some (.string s) := by
      have := congrArg (·[0]?) e1
      simpa [List.getElem?_take, List.getElem?_drop] using this
    have e4 : (xs.map (·.1))[i]? = (zs.map fun l => (.lit (.string l) : DataW H))[i]? := by rw [e3]
    rw [List.getElem?_map, List.getElem?_map, List.getElem?_eq_getElem (by omega : i < xs.length), List.getElem?_eq_getElem (by omega : i < zs.length), e2] at e4
    simp only [Option.map_some, Option.some.injEq, DataW.lit.injEq, Lit.string.injEq] at e4
    rw [h1, List.getElem?_map, List.getElem?_eq_getElem (by omega : i < zs.length)]
    simp only [Option.map_some, Option.some.injEq, Value.string.injEq]
    rw [← e4]
    cases s; rfl
  · rw [List.getElem?_eq_none (by omega), List.getElem?_eq_none (by simp; omega)]

theorem byte_cell {fuel : Nat} {cs : List Value} {x : DataW H × List MemPlace} (h : DataW.trod enc Tryd.prog w base spare held fuel 5 cs = some x) : ∃ n : Int, cs = u81 n := by
  obtain ⟨n, hv, -, hw⟩ := DataW.trod_int Tryd.underlying5 h
  exact ⟨n, hv⟩
theorem open_bytes {fuel : Nat} {a : Option Addr} {len cap : Nat} {x : DataW H × List MemPlace} (h : DataW.trod enc Tryd.prog w base spare held fuel 33 [.slice a len cap] = some x) : ∃ l, Rd u81 1 w a len l ∧ len ≤ maxLen := by
  obtain ⟨l, h1, h2, -⟩ := open_rows (Q := fun _ => True) u81_len (by decide) Tryd.underlying33 (by kernel_rfl) (fun n cs y hc hy => by
    obtain ⟨m, rfl⟩ := byte_cell hy
    exact ⟨m, rfl, trivial⟩) h
  exact ⟨l, h1, h2⟩
theorem bytes_cell {fuel : Nat} {cs : List Value} {x : DataW H × List MemPlace} (h : DataW.trod enc Tryd.prog w base spare held fuel 33 cs = some x) : ∃ a len cap l, cs = [.slice a len cap] ∧ Rd u81 1 w a len l ∧ len ≤ maxLen := by
  rcases open_slice Tryd.underlying33 h with ⟨rfl, _⟩ | ⟨a', len', cap', m, n, D, Pl, rfl, -⟩
  · obtain ⟨l, h1, h2⟩ := open_bytes h
    exact ⟨_, _, _, l, rfl, h1, h2⟩
  · obtain ⟨l, h1, h2⟩ := open_bytes h
    exact ⟨_, _, _, l, rfl, h1, h2⟩

theorem open_verdict {fuel : Nat} {cs : List Value} {x : DataW H × List MemPlace} (h : DataW.trod enc Tryd.prog w base spare held fuel 35 cs = some x) :
    ∃ (what why port : Int) (mpls : Bool) (A : Option Addr) (n c : Nat) (l : List Int), cs = [.int .i64 what, .int .i64 why, .int .i64 port, .bool mpls, .slice A n c] ∧ Rd u81 1 w A n l ∧ n ≤ maxLen := by
  obtain ⟨xs, n, -, -, hl, hxl, hf⟩ := DataW.trod_struct Tryd.underlying35 h
  rw [show Tryd.prog.cellsOf 35 = 5 by kernel_rfl] at hl
  have cI : Tryd.prog.cellsOf 3 = 1 := by kernel_rfl
  have cS : Tryd.prog.cellsOf 33 = 1 := by kernel_rfl
  have cB : Tryd.prog.cellsOf 4 = 1 := by kernel_rfl
  match cs, hl with
  | [c0, c1, c2, c3, c4], _ =>
    have f0 : DataW.trod enc Tryd.prog w base spare held n 3 (List.take (Tryd.prog.cellsOf 3) (List.drop 0 [c0, c1, c2, c3, c4])) = xs[0]? := hf 0 _ rfl
    have f1 : DataW.trod enc Tryd.prog w base spare held n 3 (List.take (Tryd.prog.cellsOf 3) (List.drop 1 [c0, c1, c2, c3, c4])) = xs[1]? := hf 1 _ rfl
    have f2 : DataW.trod enc Tryd.prog w base spare held n 3 (List.take (Tryd.prog.cellsOf 3) (List.drop 2 [c0, c1, c2, c3, c4])) = xs[2]? := hf 2 _ rfl
    have f3 : DataW.trod enc Tryd.prog w base spare held n 4 (List.take (Tryd.prog.cellsOf 4) (List.drop 3 [c0, c1, c2, c3, c4])) = xs[3]? := hf 3 _ rfl
    have f4 : DataW.trod enc Tryd.prog w base spare held n 33 (List.take (Tryd.prog.cellsOf 33) (List.drop 4 [c0, c1, c2, c3, c4])) = xs[4]? := hf 4 _ rfl
    obtain ⟨x0, e0⟩ := at_lt hxl (show 0 < 5 by decide)
    obtain ⟨x1, e1⟩ := at_lt hxl (show 1 < 5 by decide)
    obtain ⟨x2, e2⟩ := at_lt hxl (show 2 < 5 by decide)
    obtain ⟨x3, e3⟩ := at_lt hxl (show 3 < 5 by decide)
    obtain ⟨x4, e4⟩ := at_lt hxl (show 4 < 5 by decide)
    rw [e0] at f0; rw [e1] at f1; rw [e2] at f2; rw [e3] at f3; rw [e4] at f4
    rw [cI] at f0 f1 f2; rw [cB] at f3; rw [cS] at f4
    obtain ⟨n0, h0, -⟩ := int_cell f0
    obtain ⟨n1, h1, -⟩ := int_cell f1
    obtain ⟨n2, h2, -⟩ := int_cell f2
    obtain ⟨b, h3, -⟩ := DataW.trod_bool Tryd.underlying4 f3
    obtain ⟨A, ln, lc, ll, h4, r4, b4⟩ := bytes_cell f4
    simp at h0 h1 h2 h3 h4
    subst h0; subst h1; subst h2; subst h3; subst h4
    exact ⟨n0, n1, n2, b, A, ln, lc, ll, rfl, r4, b4⟩

instance : Inhabited Sp := ⟨⟨0, 0, 0, false, none, 0, 0, 0⟩⟩
theorem open_step {fuel : Nat} {cs : List Value} {x : DataW H × List MemPlace} (h : DataW.trod enc Tryd.prog w base spare held fuel 37 cs = some x) : ∃ s : Sp, cs = spc s ∧ SpRd w s := by
  obtain ⟨xs, n, -, -, hl, hxl, hf⟩ := DataW.trod_struct Tryd.underlying37 h
  rw [show Tryd.prog.cellsOf 37 = 6 by kernel_rfl] at hl
  have cI : Tryd.prog.cellsOf 3 = 1 := by kernel_rfl
  have cV : Tryd.prog.cellsOf 35 = 5 := by kernel_rfl
  match cs, hl with
  | [c0, c1, c2, c3, c4, c5], _ =>
    have f0 : DataW.trod enc Tryd.prog w base spare held n 35 (List.take (Tryd.prog.cellsOf 35) (List.drop 0 [c0, c1, c2, c3, c4, c5])) = xs[0]? := hf 0 _ rfl
    have f1 : DataW.trod enc Tryd.prog w base spare held n 3 (List.take (Tryd.prog.cellsOf 3) (List.drop 5 [c0, c1, c2, c3, c4, c5])) = xs[1]? := hf 1 _ rfl
    obtain ⟨x0, e0⟩ := at_lt hxl (show 0 < 2 by decide)
    obtain ⟨x1, e1⟩ := at_lt hxl (show 1 < 2 by decide)
    rw [e0] at f0; rw [e1] at f1
    rw [cV] at f0; rw [cI] at f1
    obtain ⟨what, why, port, b, A, ln, lc, ll, h0, r4, b4⟩ := open_verdict f0
    obtain ⟨n1, h1, -⟩ := int_cell f1
    simp at h0 h1
    obtain ⟨g0, g1, g2, g3, g4⟩ := h0
    subst g0; subst g1; subst g2; subst g3; subst g4; subst h1
    exact ⟨⟨what, why, port, b, A, ln, lc, n1⟩, rfl, ll, r4⟩
theorem open_steps {fuel : Nat} {a : Option Addr} {len cap : Nat} {x : DataW H × List MemPlace} (h : DataW.trod enc Tryd.prog w base spare held fuel 22 [.slice a len cap] = some x) : ∃ l, Rd spc 6 w a len l ∧ len ≤ maxLen ∧ ∀ s ∈ l, SpRd w s :=
  open_rows spc_len (by decide) Tryd.underlying22 (by kernel_rfl) (fun n cs y hc hy => open_step hy) h
end

theorem ty_pow : (Tryd.prog.globals[1]?).map (·.type) = some 80 := by kernel_rfl
theorem ty_names : (Tryd.prog.globals[0]?).map (·.type) = some 67 := by kernel_rfl
/-- what the condition gives the walks -/
theorem of_laid {W : World} (h : laidMetH Tryd.prog laidL W) : Tab W ∧ Names W := by
  rw [MakeChecks.laidMetH_plain _ _ _ (by kernel_rfl)] at h
  obtain ⟨ps, ⟨g0, t0, cs0, f0, p0, q0, hg0, ht0, hv0, hd0, ⟨g1, t1, cs1, f1, p1, q1, hg1, ht1, hv1, hd1, ⟨g2, t2, cs2, f2, p2, q2, hg2, ht2, hv2, hd2, ⟨g3, t3, cs3, f3, p3, q3, hg3, ht3, hv3, hd3, _, _⟩, _⟩, _⟩, _⟩, _, _⟩ := h
  clear hd0 hd1 hv0 hv1 hg0 hg1 ht0 ht1
  obtain rfl := Option.some.inj (tab_g.symm.trans hg2)
  obtain rfl := Option.some.inj (names_g.symm.trans hg3)
  obtain rfl := Option.some.inj (ty_pow.symm.trans ht2)
  obtain rfl := Option.some.inj (ty_names.symm.trans ht3)
  rw [pow_data] at hd2
  rw [names_data] at hd3
  refine ⟨?_, ?_⟩
  · unfold Tab Lib.TabIs
    rw [hv2, ← Lib.cells_of_tab Tryd.underlying80 Tryd.underlying74 (by kernel_rfl) (by kernel_rfl) hd2]
  · unfold Names
    rw [hv3, ← cells_of_strings Tryd.underlying67 Tryd.underlying9 (by kernel_rfl) (by kernel_rfl) hd3]

theorem door_met (os : Os) (args : Array Value) : laidMetH Tryd.prog laidL ((World.doorLaid Tryd.prog 400 os).forCall (fun _ _ => 0) ⟨#[], args, []⟩).memory :=
  laidMetH_of_parts3 (fuel := 8) (laidMet_of_run' 8 (by kernel_rfl) (by kernel_rfl)) (by kernel_rfl) (by kernel_rfl)
end Go.Proofs.YtpkfmikpgfgbgaaDoor
