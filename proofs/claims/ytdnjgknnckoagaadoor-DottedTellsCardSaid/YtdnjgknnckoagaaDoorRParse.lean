/-
  The reference's Parse, walked: its machine.
-/
import Derived.Test.YtdnjgknnckoagaaDoorPlain
import Derived.Test.YtdnjgknnckoagaaDoorNumW
namespace Go.Proofs.YtdnjgknnckoagaaDoor
open Go.RowKit

structure RpAt (W w : World) (B : Nat) (f : Nat → Int) : Prop where
  rb : w.heap[B]? = some (.cells (row4 fun _ => 0) 22 (0, 0))
  ra : w.heap[B + 1]? = some (.cells (row4 f) 22 (0, 0))
  bel : Below B W w
theorem RpAt.setA {W w : World} {B : Nat} {f : Nat → Int} (h : RpAt W w B f) {i : Nat} (hi : i < 4) (x : Int) : RpAt W (w.setCell ⟨B + 1, i, none⟩ (.int .u8 x)) B (upd4 f i x) :=
  ⟨by rw [heap_setCell_other w _ _ _ (by simp)]; exact h.rb, by rw [heap_setCell_same w _ _ _ _ _ h.ra, row4_set f hi], below_set h.bel (by omega) _ _⟩
theorem start_rp (w : World) : RpAt w ((w.alloc (.cells #[.int .u8 0, .int .u8 0, .int .u8 0, .int .u8 0] 22)).alloc (.cells #[.int .u8 0, .int .u8 0, .int .u8 0, .int .u8 0] 22)) w.heap.size (fun _ => 0) := by
  refine ⟨?_, ?_, ?_⟩
  · rw [Lib.alloc_old _ _ _ (by first | (simp; done) | (simp; omega))]; exact heap_alloc_new _ _
  · exact alloc_at (by simp)
  · go_grown
theorem RpAt.facts {W w : World} {B : Nat} {f : Nat → Int} (h : RpAt W w B f) :
    (w.cell? ⟨B, 0, none⟩ = some (.int .u8 0) ∧ w.cell? ⟨B, 1, none⟩ = some (.int .u8 0) ∧ w.cell? ⟨B, 2, none⟩ = some (.int .u8 0) ∧ w.cell? ⟨B, 3, none⟩ = some (.int .u8 0)) ∧
    (w.frozen? ⟨B, 0, none⟩ = false ∧ w.frozen? ⟨B, 1, none⟩ = false ∧ w.frozen? ⟨B, 2, none⟩ = false ∧ w.frozen? ⟨B, 3, none⟩ = false) := by
  refine ⟨⟨?_, ?_, ?_, ?_⟩, frozen_of_row _ _ _ _ _ h.rb, frozen_of_row _ _ _ _ _ h.rb, frozen_of_row _ _ _ _ _ h.rb, frozen_of_row _ _ _ _ _ h.rb⟩
  · rw [cell_of_row _ _ _ _ _ (0, 0) h.rb]; rfl
  · rw [cell_of_row _ _ _ _ _ (0, 0) h.rb]; rfl
  · rw [cell_of_row _ _ _ _ _ (0, 0) h.rb]; rfl
  · rw [cell_of_row _ _ _ _ _ (0, 0) h.rb]; rfl

/-- what is still to be read, and what has become of it -/
def RunsR (l : List UInt8) (i : Nat) (t : RSt) : Prop := (i ≤ l.length ∧ runR (l.drop i) t = runR l startR) ∨ (i = l.length + 1 ∧ parseR l = if t.k = 4 then some t.f else none)
theorem runsR_start (l : List UInt8) : RunsR l 0 startR := Or.inl ⟨Nat.zero_le _, rfl⟩
theorem runsR_at {l : List UInt8} {i : Nat} {t : RSt} (h : RunsR l i t) (hi : i ≤ l.length) : runR (l.drop i) t = runR l startR := by
  rcases h with h | ⟨h, -⟩
  · exact h.2
  · omega
theorem runsR_end {l : List UInt8} {i : Nat} {t : RSt} (h : RunsR l i t) (hi : ¬ i ≤ l.length) : parseR l = if t.k = 4 then some t.f else none := by
  rcases h with h | ⟨-, h⟩
  · omega
  · exact h
theorem runsR_step {s : ByteArray} {i : Nat} {t : RSt} (h : RunsR s.data.toList i t) (hi : i < s.size) : runR s.data.toList startR = (stepR t (s[i]'hi)).bind (runR (s.data.toList.drop (i + 1))) := by
  have hh := runsR_at h (by simp; omega)
  rw [at_drop s hi] at hh
  rw [← hh]; rfl
theorem runsR_on {s : ByteArray} {i : Nat} {t u : RSt} (h : RunsR s.data.toList i t) (hi : i < s.size) (hs : stepR t (s[i]'hi) = some u) : RunsR s.data.toList (i + 1) u :=
  Or.inl ⟨by simp; omega, by rw [runsR_step h hi, hs]; rfl⟩
theorem runsR_bad {s : ByteArray} {i : Nat} {t : RSt} (h : RunsR s.data.toList i t) (hi : i < s.size) (hs : stepR t (s[i]'hi) = none) : parseR s.data.toList = none := by
  rw [parseR, runsR_step h hi, hs]; rfl
theorem runsR_last {s : ByteArray} {i : Nat} {t : RSt} (h : RunsR s.data.toList i t) (hi : i = s.size) : parseR s.data.toList = (endR t).bind fun u => if u.k = 4 then some u.f else none := by
  have hh := runsR_at h (by simp; omega)
  rw [List.drop_of_length_le (by simp; omega)] at hh
  rw [parseR, ← hh]; rfl
theorem runsR_fin {s : ByteArray} {i : Nat} {t u : RSt} (h : RunsR s.data.toList i t) (hi : i = s.size) (hs : endR t = some u) : RunsR s.data.toList (i + 1) u :=
  Or.inr ⟨by simp; omega, by rw [runsR_last h hi, hs]; rfl⟩
theorem retR_none {l : List UInt8} (h : parseR l = none) : Ending.returned (.tuple #[.agg (row4 fun _ => 0), .bool false]) = Ending.returned (outP (parseR l)) := by rw [h]; rfl
theorem ext_one (s : ByteArray) {i : Nat} (h : i < s.size) : s.extract i (i + 1) = txt [s[i]'h] := by
  apply ByteArray.ext
  apply Array.ext'
  simp [txt]
  rw [at_drop s h]
  simp
/-- a part's end, whatever comes behind it -/
def AtEnd (s : ByteArray) (i : Nat) (t : RSt) : Prop := ((hi : i < s.size) → (s[i]'hi).toNat = 46) ∧ i ≤ s.size ∧ RunsR s.data.toList i t
theorem atEnd_bad {s : ByteArray} {i : Nat} {t : RSt} (h : AtEnd s i t) (he : endR t = none) : parseR s.data.toList = none := by
  obtain ⟨h1, h2, h3⟩ := h
  by_cases hi : i < s.size
  · exact runsR_bad h3 hi (by rw [stepR, if_pos (h1 hi), he])
  · rw [runsR_last h3 (by omega), he]; rfl
theorem atEnd_on {s : ByteArray} {i : Nat} {t u : RSt} (h : AtEnd s i t) (he : endR t = some u) : RunsR s.data.toList (i + 1) u := by
  obtain ⟨h1, h2, h3⟩ := h
  by_cases hi : i < s.size
  · exact runsR_on h3 hi (by rw [stepR, if_pos (h1 hi), he])
  · exact runsR_fin h3 (by omega) he

set_option maxRecDepth 100000 in
set_option maxHeartbeats 4000000 in
theorem rparse_any (s : ByteArray) (hs : s.size ≤ 1000) (w : World) :
    Calls Tryd.prog 15 #[.string s] w fun e w' => e = .returned (outP (parseR s.data.toList)) ∧ Below w.heap.size w w' := by
  have HP := Lib.hid (start_rp w)
  go_enter Tryd.func15, Tryd.ntmps15
  go_wp2_with fail
  obtain ⟨B, hB⟩ : ∃ B, B = w.heap.size := ⟨_, rfl⟩
  generalize World.alloc _ _ = w1 at HP ⊢
  rw [← hB] at HP ⊢
  have HBE := Lib.hid hB
  clear hB
  go_loopw [5, 6, 7] (fun p k i wr => ∃ (pos : Nat) (t : RSt), p = .string (txt t.part) ∧ k = .int .i64 t.k ∧ i = .int .i64 pos ∧ RpAt w wr B t.f ∧ RunsR s.data.toList pos t ∧ t.k ≤ 4 ∧ t.part.length ≤ pos ∧ pos ≤ s.size + 1) (fun _ _ i _ => s.size + 1 - (intOf i).toNat)
  case atStart => exact ⟨0, startR, rfl, rfl, rfl, HP.out, runsR_start _, by decide, by decide, Nat.zero_le _⟩
  case round =>
    obtain ⟨pos, t, rfl, rfl, rfl, hps, hrun, hk, hpl, hpos⟩ := hrel
    obtain ⟨f, k, part⟩ := t
    have HPS := Lib.hid hps
    have HRUN := Lib.hid hrun
    clear hps hrun
    simp only at hk hpl
    have hp0 : (0 : Int) ≤ pos := by omega
    by_cases hle : pos ≤ s.size
    · by_cases hch : ∃ h : pos < s.size, (s[pos]'h).toNat ≠ 46
      · obtain ⟨hlt, hne⟩ := hch
        have hlt' : (pos : Int) < s.size := by omega
        have hd : (((s[pos]'hlt).toNat : Int) != 46) = true := by simp; omega
        have HON := Lib.hid (runsR_on HRUN.out hlt (u := ⟨f, k, part ++ [s[pos]'hlt]⟩) (by rw [stepR, if_neg hne]))
        have HEX := Lib.hid (ext_one s hlt)
        have e1 : ¬ 9223372036854775807 < part.length + (min (pos + 1) s.size - pos) := by omega
        go_wp2_with fail
        go_roundw
        case rel => exact ⟨pos + 1, ⟨f, k, part ++ [s[pos]'hlt]⟩, by rw [HEX.out, txt_append], rfl, by go_num, HPS.out, HON.out, hk, by simp; omega, by omega⟩
        case measure => simp [intOf]; omega
      · have HAE : Hid (AtEnd s pos ⟨f, k, part⟩) := Lib.hid ⟨fun h => by
          by_cases e : (s[pos]'h).toNat = 46
          · exact e
          · exact absurd ⟨h, e⟩ hch, hle, HRUN.out⟩
        have hd : (∃ h : pos < s.size, ((((s[pos]'h).toNat : Nat) : Int) != 46) = false ∧ (pos : Int) < s.size) ∨ pos = s.size := by
          by_cases h : pos < s.size
          · exact Or.inl ⟨h, by rw [HAE.out.1 h]; rfl, by omega⟩
          · exact Or.inr (by omega)
        clear hch HRUN
        obtain ⟨⟨q0, q1, q2, q3⟩, f0, f1, f2, f3⟩ := HPS.out.facts
        have hbz := Lib.hid (below_zero HPS.out.bel (.int .u8 0) (.int .u8 0) (.int .u8 0) (.int .u8 0))
        have HNUM := Lib.hid (num_any (txt part) wr)
        rcases hd with ⟨hlt, hd, hlt'⟩ | rfl
        all_goals
          go_wp2_with fail
          refine (HNUM.out).mono ?_
          clear HNUM
          rintro e w2 ⟨rfl, rfl⟩
          rw [txt_list]
          cases hn : numB part with
          | none =>
            have HN := Lib.hid (atEnd_bad HAE.out (by rw [endR, hn]; rfl))
            clear hn
            rw [show outN none = .tuple #[.int .i64 0, .bool false] from rfl]
            go_wp2
            refine bodyPost_ret (v := .tuple #[.agg (row4 fun _ => 0), .bool false]) (by simp [results, Tryd.results15, go_sem, row4, q0, q1, q2, q3]) rfl ⟨retR_none HN.out, HBE.out ▸ hbz.out⟩
          | some n =>
            have hn2 := (numB_sound hn).2
            rw [show outN (some n) = .tuple #[.int .i64 n, .bool true] from rfl]
            by_cases h4 : k = 4
            · have HN := Lib.hid (atEnd_bad HAE.out (by rw [endR, hn, Option.bind_some, if_pos h4]))
              have d4 : (((k : Nat) : Int) == 4) = true := by simp; omega
              clear hn h4
              go_wp2
              refine bodyPost_ret (v := .tuple #[.agg (row4 fun _ => 0), .bool false]) (by simp [results, Tryd.results15, go_sem, row4, q0, q1, q2, q3]) rfl ⟨retR_none HN.out, HBE.out ▸ hbz.out⟩
            · have HN := Lib.hid (atEnd_on HAE.out (u := ⟨upd4 f k n, k + 1, []⟩) (by rw [endR, hn, Option.bind_some, if_neg h4]))
              have d4 : (((k : Nat) : Int) == 4) = false := by simp; omega
              clear hn
              have hk0 : (0 : Int) ≤ k := by omega
              have hk4 : (k : Int) < 4 := by omega
              have ca : wr.cell? ⟨B + 1, k, none⟩ = some (.int .u8 (f k)) := by rw [cell_of_row _ _ _ _ _ (0, 0) HPS.out.ra]; exact row4_at f (by omega)
              have fa := frozen_of_row wr (B + 1) k _ _ HPS.out.ra
              have hw8 : IntKind.u8.wrap (n : Int) = n := by simp [IntKind.wrap, IntKind.bits, IntKind.signed]; omega
              have HF := Lib.hid (HPS.out.setA (i := k) (by omega) n)
              go_wp2
              go_roundw
              case rel => exact ⟨_, ⟨upd4 f k n, k + 1, []⟩, rfl, by go_num, by go_num, HF.out, HN.out, by simp only; omega, by simp, by omega⟩
              case measure => first | (simp [intOf]; done) | (simp [intOf]; omega)
    · have HEND := Lib.hid (runsR_end HRUN.out (by simpa using hle))
      have hpe : ¬ (pos : Int) ≤ s.size := by omega
      obtain ⟨⟨q0, q1, q2, q3⟩, f0, f1, f2, f3⟩ := HPS.out.facts
      by_cases h4 : k = 4
      · subst h4
        have HN := Lib.hid (show parseR s.data.toList = some f by rw [HEND.out]; rfl)
        have r0 : wr.cell? ⟨B + 1, 0, none⟩ = some (.int .u8 (f 0)) := by rw [cell_of_row _ _ _ _ _ (0, 0) HPS.out.ra]; rfl
        have r1 : wr.cell? ⟨B + 1, 1, none⟩ = some (.int .u8 (f 1)) := by rw [cell_of_row _ _ _ _ _ (0, 0) HPS.out.ra]; rfl
        have r2 : wr.cell? ⟨B + 1, 2, none⟩ = some (.int .u8 (f 2)) := by rw [cell_of_row _ _ _ _ _ (0, 0) HPS.out.ra]; rfl
        have r3 : wr.cell? ⟨B + 1, 3, none⟩ = some (.int .u8 (f 3)) := by rw [cell_of_row _ _ _ _ _ (0, 0) HPS.out.ra]; rfl
        have hbz := Lib.hid (below_zero HPS.out.bel (.int .u8 (f 0)) (.int .u8 (f 1)) (.int .u8 (f 2)) (.int .u8 (f 3)))
        go_wp2
        refine bodyPost_ret (v := .tuple #[.agg (row4 f), .bool true]) (by simp [results, Tryd.results15, go_sem, row4, q0, q1, q2, q3]) rfl ⟨by rw [HN.out]; rfl, HBE.out ▸ hbz.out⟩
      · have HN := Lib.hid (show parseR s.data.toList = none by rw [HEND.out]; exact if_neg h4)
        have d4 : (((k : Nat) : Int) != 4) = true := by simp; omega
        have hbz := Lib.hid (below_zero HPS.out.bel (.int .u8 0) (.int .u8 0) (.int .u8 0) (.int .u8 0))
        go_wp2
        refine bodyPost_ret (v := .tuple #[.agg (row4 fun _ => 0), .bool false]) (by simp [results, Tryd.results15, go_sem, row4, q0, q1, q2, q3]) rfl ⟨retR_none HN.out, HBE.out ▸ hbz.out⟩
end Go.Proofs.YtdnjgknnckoagaaDoor
