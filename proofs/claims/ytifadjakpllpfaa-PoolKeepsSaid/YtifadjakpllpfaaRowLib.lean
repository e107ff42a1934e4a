/-
  From the reading of an argument to what the walks ask: hops, steps, scripts; the law's small.
-/
import Derived.Test.YtifadjakpllpfaaOpen
import Derived.Test.YtifadjakpllpfaaRun
import Derived.Test.YtifadjakpllpfaaAwake
namespace Go.Proofs.Ytifadjakpllpfaa
open Go.ChangeShapes Go.WideShapes Go.ChangeAt Go.RowKit Go.Deep

section
variable {H : Type} {enc : TypeId × Value → H} {w : World} {base : Nat} {spare : Nat → Bool} {held : Bool}
theorem open_ints' {fuel : Nat} {a : Option Addr} {len cap : Nat} {x : DataW H × List MemPlace} (h : DataW.trod enc Try.prog w base spare held fuel 23 [.slice a len cap] = some x) : ∃ l, Rd int1 1 w a len l ∧ len ≤ maxLen := by
  obtain ⟨l, h1, h2, -⟩ := open_rows (Q := fun _ => True) int1_len (by decide) Try.underlying23 (by kernel_rfl) (fun n cs y hc hy => by
    obtain ⟨m, rfl, -⟩ := int_cell hy
    exact ⟨m, rfl, trivial⟩) h
  exact ⟨l, h1, h2⟩
theorem slice_cell {fuel : Nat} {cs : List Value} {x : DataW H × List MemPlace} (h : DataW.trod enc Try.prog w base spare held fuel 23 cs = some x) : ∃ a len cap l, cs = [.slice a len cap] ∧ Rd int1 1 w a len l ∧ len ≤ maxLen := by
  rcases open_slice Try.underlying23 h with ⟨rfl, _⟩ | ⟨a', len', cap', m, n, D, Pl, rfl, -⟩
  · obtain ⟨l, h1, h2⟩ := open_ints' h
    exact ⟨_, _, _, l, rfl, h1, h2⟩
  · obtain ⟨l, h1, h2⟩ := open_ints' h
    exact ⟨_, _, _, l, rfl, h1, h2⟩

/-- a hop's six cells -/
theorem open_hop {fuel : Nat} {cs : List Value} {x : DataW H × List MemPlace} (h : DataW.trod enc Try.prog w base spare held fuel 35 cs = some x) :
    ∃ (op : Int) (L : Option Addr) (ln lc : Nat) (port backup : Int) (R : Option Addr) (rn rc : Nat) (pipe : Bool) (ll rl : List Int), cs = [.int .i64 op, .slice L ln lc, .int .i64 port, .int .i64 backup, .slice R rn rc, .bool pipe] ∧ Rd int1 1 w L ln ll ∧ Rd int1 1 w R rn rl ∧ ln ≤ maxLen ∧ rn ≤ maxLen := by
  obtain ⟨xs, n, -, -, hl, hxl, hf⟩ := DataW.trod_struct Try.underlying35 h
  rw [show Try.prog.cellsOf 35 = 6 by kernel_rfl] at hl
  have cI : Try.prog.cellsOf 3 = 1 := by kernel_rfl
  have cS : Try.prog.cellsOf 23 = 1 := by kernel_rfl
  have cB : Try.prog.cellsOf 4 = 1 := by kernel_rfl
  match cs, hl with
  | [c0, c1, c2, c3, c4, c5], _ =>
    have f0 : DataW.trod enc Try.prog w base spare held n 3 (List.take (Try.prog.cellsOf 3) (List.drop 0 [c0, c1, c2, c3, c4, c5])) = xs[0]? := hf 0 _ rfl
    have f1 : DataW.trod enc Try.prog w base spare held n 23 (List.take (Try.prog.cellsOf 23) (List.drop 1 [c0, c1, c2, c3, c4, c5])) = xs[1]? := hf 1 _ rfl
    have f2 : DataW.trod enc Try.prog w base spare held n 3 (List.take (Try.prog.cellsOf 3) (List.drop 2 [c0, c1, c2, c3, c4, c5])) = xs[2]? := hf 2 _ rfl
    have f3 : DataW.trod enc Try.prog w base spare held n 3 (List.take (Try.prog.cellsOf 3) (List.drop 3 [c0, c1, c2, c3, c4, c5])) = xs[3]? := hf 3 _ rfl
    have f4 : DataW.trod enc Try.prog w base spare held n 23 (List.take (Try.prog.cellsOf 23) (List.drop 4 [c0, c1, c2, c3, c4, c5])) = xs[4]? := hf 4 _ rfl
    have f5 : DataW.trod enc Try.prog w base spare held n 4 (List.take (Try.prog.cellsOf 4) (List.drop 5 [c0, c1, c2, c3, c4, c5])) = xs[5]? := hf 5 _ rfl
    obtain ⟨x0, e0⟩ := at_lt hxl (show 0 < 6 by decide)
    obtain ⟨x1, e1⟩ := at_lt hxl (show 1 < 6 by decide)
    obtain ⟨x2, e2⟩ := at_lt hxl (show 2 < 6 by decide)
    obtain ⟨x3, e3⟩ := at_lt hxl (show 3 < 6 by decide)
    obtain ⟨x4, e4⟩ := at_lt hxl (show 4 < 6 by decide)
    obtain ⟨x5, e5⟩ := at_lt hxl (show 5 < 6 by decide)
    rw [e0] at f0; rw [e1] at f1; rw [e2] at f2; rw [e3] at f3; rw [e4] at f4; rw [e5] at f5
    rw [cI] at f0 f2 f3
    rw [cS] at f1 f4
    rw [cB] at f5
    obtain ⟨n0, h0, -⟩ := int_cell f0
    obtain ⟨L, ln, lc, ll, h1, r1, b1⟩ := slice_cell f1
    obtain ⟨n2, h2, -⟩ := int_cell f2
    obtain ⟨n3, h3, -⟩ := int_cell f3
    obtain ⟨R, rn, rc, rl, h4, r4, b4⟩ := slice_cell f4
    obtain ⟨pipe, h5, -⟩ := DataW.trod_bool Try.underlying4 f5
    simp at h0 h1 h2 h3 h4 h5
    subst h0; subst h1; subst h2; subst h3; subst h4; subst h5
    exact ⟨n0, L, ln, lc, n2, n3, R, rn, rc, pipe, ll, rl, rfl, r1, r4, b1, b4⟩

instance : Inhabited Stp := ⟨⟨0, 0, ByteArray.empty, 0, none, 0, 0, 0, 0, none, 0, 0, false⟩⟩
/-- a script's step: its nine cells -/
theorem open_step {fuel : Nat} {cs : List Value} {x : DataW H × List MemPlace} (h : DataW.trod enc Try.prog w base spare held fuel 63 cs = some x) : ∃ s : Stp, cs = stp s ∧ StpRd w s := by
  obtain ⟨xs, n, -, -, hl, hxl, hf⟩ := DataW.trod_struct Try.underlying63 h
  rw [show Try.prog.cellsOf 63 = 9 by kernel_rfl] at hl
  have cI : Try.prog.cellsOf 3 = 1 := by kernel_rfl
  have cS : Try.prog.cellsOf 9 = 1 := by kernel_rfl
  have cH : Try.prog.cellsOf 35 = 6 := by kernel_rfl
  match cs, hl with
  | [c0, c1, c2, c3, c4, c5, c6, c7, c8], _ =>
    have f0 : DataW.trod enc Try.prog w base spare held n 3 (List.take (Try.prog.cellsOf 3) (List.drop 0 [c0, c1, c2, c3, c4, c5, c6, c7, c8])) = xs[0]? := hf 0 _ rfl
    have f1 : DataW.trod enc Try.prog w base spare held n 3 (List.take (Try.prog.cellsOf 3) (List.drop 1 [c0, c1, c2, c3, c4, c5, c6, c7, c8])) = xs[1]? := hf 1 _ rfl
    have f2 : DataW.trod enc Try.prog w base spare held n 9 (List.take (Try.prog.cellsOf 9) (List.drop 2 [c0, c1, c2, c3, c4, c5, c6, c7, c8])) = xs[2]? := hf 2 _ rfl
    have f3 : DataW.trod enc Try.prog w base spare held n 35 (List.take (Try.prog.cellsOf 35) (List.drop 3 [c0, c1, c2, c3, c4, c5, c6, c7, c8])) = xs[3]? := hf 3 _ rfl
    obtain ⟨x0, e0⟩ := at_lt hxl (show 0 < 4 by decide)
    obtain ⟨x1, e1⟩ := at_lt hxl (show 1 < 4 by decide)
    obtain ⟨x2, e2⟩ := at_lt hxl (show 2 < 4 by decide)
    obtain ⟨x3, e3⟩ := at_lt hxl (show 3 < 4 by decide)
    rw [e0] at f0; rw [e1] at f1; rw [e2] at f2; rw [e3] at f3
    rw [cI] at f0 f1
    rw [cS] at f2
    rw [cH] at f3
    obtain ⟨n0, h0, -⟩ := int_cell f0
    obtain ⟨n1, h1, -⟩ := int_cell f1
    obtain ⟨s2, h2, -⟩ := DataW.trod_string Try.underlying9 f2
    obtain ⟨op, L, ln, lc, port, backup, R, rn, rc, pipe, ll, rl, h3, r1, r4, b1, b4⟩ := open_hop f3
    simp at h0 h1 h2 h3
    obtain ⟨g0, g1, g2, g3, g4, g5⟩ := h3
    subst h0; subst h1; subst h2; subst g0; subst g1; subst g2; subst g3; subst g4; subst g5
    exact ⟨⟨n0, n1, s2, op, L, ln, lc, port, backup, R, rn, rc, pipe⟩, rfl, ⟨ll, r1⟩, ⟨rl, r4⟩⟩
theorem open_script {fuel : Nat} {a : Option Addr} {len cap : Nat} {x : DataW H × List MemPlace} (h : DataW.trod enc Try.prog w base spare held fuel 22 [.slice a len cap] = some x) : ∃ l, Rd stp 9 w a len l ∧ len ≤ maxLen ∧ ∀ s ∈ l, StpRd w s :=
  open_rows stp_len (by decide) Try.underlying22 (by kernel_rfl) (fun n cs y hc hy => open_step hy) h
end

/-- what small asks -/
def few1 (s : Stp) : Bool := !(decide (50 < s.text.size) || decide (20 < s.ln) || decide (20 < s.rn))
def smallB (l : List Stp) : Bool := l.all few1 && decide (l.length ≤ 60)

set_option maxHeartbeats 2000000 in
theorem small_any (A : Option Addr) (n c : Nat) (l : List Stp) (w : World) (hr : Rd stp 9 w A n l) (hn : n ≤ maxLen) :
    Calls Try.prog 7 #[.slice A n c] w fun e w' => e = .returned (.bool (smallB l)) ∧ Below w.heap.size w w' := by
  have hlen := hr.1
  have HR := Lib.hid hr
  clear hr
  have hn' : n ≤ 9223372036854775807 := by simpa [maxLen] using hn
  clear hn
  go_enter Try.func7, Try.ntmps7
  go_wp2
  go_loopw [3] (fun u W => ∃ k : Nat, k ≤ n ∧ u = .int .i64 k ∧ (l.take k).all few1 = true ∧ Below w.heap.size w W) (fun u _ => n - (intOf u).toNat)
  case atStart => exact ⟨0, Nat.zero_le _, rfl, rfl, Below.refl _ _⟩
  case round =>
    obtain ⟨k, hk, rfl, hall, hb⟩ := hrel
    by_cases hlt : k < n
    · obtain ⟨s, b, off, hx, rfl, hcs⟩ := (HR.out.below hb).at_ hlt
      obtain ⟨kind, id, text, op, L, ln, lc, port, backup, R, rn, rc, pipe⟩ := s
      have c2 : wr.cell? ⟨b, off + k * 9 + 2, none⟩ = some (.string text) := hcs 2 _ rfl
      have c4 : wr.cell? ⟨b, off + k * 9 + 3 + 1, none⟩ = some (.slice L ln lc) := hcs 4 _ rfl
      have c7 : wr.cell? ⟨b, off + k * 9 + 3 + 4, none⟩ = some (.slice R rn rc) := hcs 7 _ rfl
      have hk0 : (0 : Int) ≤ k := by omega
      have hkn : (k : Int) < n := by omega
      have HX := Lib.hid (take_snoc hx)
      have HM := Lib.hid (List.mem_of_getElem? hx)
      have HALL := Lib.hid hall
      have hbad : few1 ⟨kind, id, text, op, L, ln, lc, port, backup, R, rn, rc, pipe⟩ = false → smallB l = false := fun h => by
        have : l.all few1 = false := List.all_eq_false.2 ⟨_, HM.out, by simp [h]⟩
        simp [smallB, this]
      have HBAD := Lib.hid hbad
      clear hcs hx hall hbad
      by_cases h1 : 50 < text.size
      · have d1 : decide (((text.size : Nat) : Int) > 50) = true := by simp; omega
        go_wp2
        go_ret
        exact ⟨by rw [HBAD.out (by simp [few1, h1])]; rfl, hb⟩
      · have d1 : decide (((text.size : Nat) : Int) > 50) = false := by simp; omega
        by_cases h2 : 20 < ln
        · have d2 : decide ((ln : Int) > 20) = true := by simp; omega
          go_wp2
          go_ret
          exact ⟨by rw [HBAD.out (by simp [few1, h2])]; rfl, hb⟩
        · have d2 : decide ((ln : Int) > 20) = false := by simp; omega
          by_cases h3 : 20 < rn
          · have d3 : decide ((rn : Int) > 20) = true := by simp; omega
            go_wp2
            go_ret
            exact ⟨by rw [HBAD.out (by simp [few1, h3])]; rfl, hb⟩
          · have d3 : decide ((rn : Int) > 20) = false := by simp; omega
            go_wp2
            go_roundw
            case rel => exact ⟨k + 1, by omega, by go_num, by rw [HX.out, List.all_append, HALL.out]; simp [few1, h1, h2, h3], hb⟩
            case measure => simp [intOf]; omega
    · have hkn : n = k := by omega
      subst hkn
      have hs : smallB l = decide ((n : Int) ≤ 60) := by
        rw [List.take_of_length_le (by omega)] at hall
        rw [smallB, hall, hlen]
        simp
        omega
      clear hall
      go_wp2
      go_ret
      exact ⟨by rw [hs]; rfl, hb⟩

end Go.Proofs.Ytifadjakpllpfaa
