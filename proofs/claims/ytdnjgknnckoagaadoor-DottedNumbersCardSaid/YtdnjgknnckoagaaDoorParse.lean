/-
  Parse, walked: it answers as a machine over the text's bytes.
-/
import Derived.Test.YtdnjgknnckoagaaDoorEnd
namespace Go.Proofs.YtdnjgknnckoagaaDoor
open Go.RowKit

structure PSt where
  f : Nat → Int
  k : Nat
  n : Nat
  g : Nat
def startP : PSt := ⟨fun _ => 0, 0, 0, 0⟩
def endP (t : PSt) : Option PSt := if t.g = 0 ∨ t.k = 4 then none else some ⟨upd4 t.f t.k t.n, t.k + 1, 0, 0⟩
def stepP (t : PSt) (c : Nat) : Option PSt :=
  if c = 46 then endP t else if c < 48 ∨ 57 < c ∨ (0 < t.g ∧ t.n = 0) then none else if 255 < 10 * t.n + (c - 48) then none else some ⟨t.f, t.k, 10 * t.n + (c - 48), t.g + 1⟩
def runP : List UInt8 → PSt → Option PSt
  | [], t => some t
  | c :: l, t => (stepP t c.toNat).bind (runP l)
def parseP (l : List UInt8) : Option (Nat → Int) := (runP l startP).bind fun t => (endP t).bind fun u => if u.k = 4 then some u.f else none
def outP : Option (Nat → Int) → Value
  | some f => .tuple #[.agg (row4 f), .bool true]
  | none => .tuple #[.agg (row4 fun _ => 0), .bool false]

theorem alloc_at {w : World} {o : Obj} {k : Nat} (h : k = w.heap.size) : (w.alloc o).heap[k]? = some o := by subst h; exact heap_alloc_new _ _
theorem start_ps (w : World) (s : ByteArray) : PsAt w ((((((w.alloc (.cells #[.int .u8 0, .int .u8 0, .int .u8 0, .int .u8 0] 22)).alloc (.cells #[.int .u8 0, .int .u8 0, .int .u8 0, .int .u8 0] 22)).alloc (.cells #[.int .i64 0] 3)).alloc (.cells #[.int .i64 0] 3)).alloc (.cells #[.int .i64 0] 3)).iter s 0) w.heap.size s 0 (fun _ => 0) 0 0 0 := by
  unfold World.iter
  refine ⟨?_, ?_, ?_, ?_, ?_, ?_, ?_⟩
  · rw [Lib.alloc_old _ _ _ (by first | (simp; done) | (simp; omega)), Lib.alloc_old _ _ _ (by first | (simp; done) | (simp; omega)), Lib.alloc_old _ _ _ (by first | (simp; done) | (simp; omega)), Lib.alloc_old _ _ _ (by first | (simp; done) | (simp; omega)), Lib.alloc_old _ _ _ (by first | (simp; done) | (simp; omega))]; exact heap_alloc_new _ _
  · rw [Lib.alloc_old _ _ _ (by first | (simp; done) | (simp; omega)), Lib.alloc_old _ _ _ (by first | (simp; done) | (simp; omega)), Lib.alloc_old _ _ _ (by first | (simp; done) | (simp; omega)), Lib.alloc_old _ _ _ (by first | (simp; done) | (simp; omega))]; exact alloc_at (by simp)
  · rw [Lib.alloc_old _ _ _ (by first | (simp; done) | (simp; omega)), Lib.alloc_old _ _ _ (by first | (simp; done) | (simp; omega)), Lib.alloc_old _ _ _ (by first | (simp; done) | (simp; omega))]; exact alloc_at (by simp)
  · rw [Lib.alloc_old _ _ _ (by first | (simp; done) | (simp; omega)), Lib.alloc_old _ _ _ (by first | (simp; done) | (simp; omega))]; exact alloc_at (by simp)
  · rw [Lib.alloc_old _ _ _ (by first | (simp; done) | (simp; omega))]; exact alloc_at (by simp)
  · exact alloc_at (by simp)
  · go_grown
/-- what the walk asks of the blocks -/
theorem PsAt.facts {W w : World} {B : Nat} {s : ByteArray} {pos : Nat} {f : Nat → Int} {k n g : Int} (h : PsAt W w B s pos f k n g) :
    (w.cell? ⟨B + 2, 0, none⟩ = some (.int .i64 k) ∧ w.cell? ⟨B + 3, 0, none⟩ = some (.int .i64 n) ∧ w.cell? ⟨B + 4, 0, none⟩ = some (.int .i64 g)) ∧
    (w.frozen? ⟨B + 3, 0, none⟩ = false ∧ w.frozen? ⟨B + 4, 0, none⟩ = false) ∧
    (w.cell? ⟨B, 0, none⟩ = some (.int .u8 0) ∧ w.cell? ⟨B, 1, none⟩ = some (.int .u8 0) ∧ w.cell? ⟨B, 2, none⟩ = some (.int .u8 0) ∧ w.cell? ⟨B, 3, none⟩ = some (.int .u8 0)) ∧
    (w.frozen? ⟨B, 0, none⟩ = false ∧ w.frozen? ⟨B, 1, none⟩ = false ∧ w.frozen? ⟨B, 2, none⟩ = false ∧ w.frozen? ⟨B, 3, none⟩ = false) := by
  refine ⟨⟨?_, ?_, ?_⟩, ⟨frozen_of_row _ _ _ _ _ h.rn, frozen_of_row _ _ _ _ _ h.rg⟩, ⟨?_, ?_, ?_, ?_⟩, frozen_of_row _ _ _ _ _ h.rb, frozen_of_row _ _ _ _ _ h.rb, frozen_of_row _ _ _ _ _ h.rb, frozen_of_row _ _ _ _ _ h.rb⟩
  · rw [cell_of_row _ _ _ _ _ (0, 0) h.rk]; rfl
  · rw [cell_of_row _ _ _ _ _ (0, 0) h.rn]; rfl
  · rw [cell_of_row _ _ _ _ _ (0, 0) h.rg]; rfl
  · rw [cell_of_row _ _ _ _ _ (0, 0) h.rb]; rfl
  · rw [cell_of_row _ _ _ _ _ (0, 0) h.rb]; rfl
  · rw [cell_of_row _ _ _ _ _ (0, 0) h.rb]; rfl
  · rw [cell_of_row _ _ _ _ _ (0, 0) h.rb]; rfl
theorem below_zero {B : Nat} {W w : World} (h : Below B W w) (v0 v1 v2 v3 : Value) : Below B W ((((w.setCell ⟨B, 0, none⟩ v0).setCell ⟨B, 1, none⟩ v1).setCell ⟨B, 2, none⟩ v2).setCell ⟨B, 3, none⟩ v3) :=
  below_set (below_set (below_set (below_set h (Nat.le_refl _) _ _) (Nat.le_refl _) _ _) (Nat.le_refl _) _ _) (Nat.le_refl _) _ _

theorem at_drop (s : ByteArray) {pos : Nat} (h : pos < s.size) : s.data.toList.drop pos = (s[pos]'h) :: s.data.toList.drop (pos + 1) := by
  rw [List.drop_eq_getElem_cons (by simpa using h)]; rfl
theorem parse_none {l : List UInt8} (h : runP l startP = none) : parseP l = none := by rw [parseP, h]; rfl
theorem parse_end {l : List UInt8} {t : PSt} (h : some t = runP l startP) : parseP l = (endP t).bind fun u => if u.k = 4 then some u.f else none := by rw [parseP, ← h]; rfl
theorem run_bad {s : ByteArray} {pos : Nat} (h : pos < s.size) {t : PSt} (hr : runP (s.data.toList.drop pos) t = runP s.data.toList startP) (hn : stepP t (s[pos]'h).toNat = none) : parseP s.data.toList = none := by
  rw [at_drop s h] at hr
  exact parse_none (by rw [← hr]; simp [runP, hn])
theorem run_on {s : ByteArray} {pos : Nat} (h : pos < s.size) {t u : PSt} (hr : runP (s.data.toList.drop pos) t = runP s.data.toList startP) (hn : stepP t (s[pos]'h).toNat = some u) : runP (s.data.toList.drop (pos + 1)) u = runP s.data.toList startP := by
  rw [at_drop s h] at hr
  rw [← hr]; simp [runP, hn]
theorem ret_none {l : List UInt8} (h : parseP l = none) : Ending.returned (.tuple #[.agg (row4 fun _ => 0), .bool false]) = Ending.returned (outP (parseP l)) := by rw [h]; rfl

set_option maxRecDepth 100000 in
set_option maxHeartbeats 4000000 in
theorem parse_any (s : ByteArray) (hs : s.size ≤ 1000) (w : World) :
    Calls Tryd.prog 14 #[.string s] w fun e w' => e = .returned (outP (parseP s.data.toList)) ∧ Below w.heap.size w w' := by
  have HP := Lib.hid (start_ps w s)
  go_enter Tryd.func14, Tryd.ntmps14
  go_wp2_with fail
  obtain ⟨B, hB⟩ : ∃ B, B = w.heap.size := ⟨_, rfl⟩
  generalize World.iter _ s 0 = w1 at HP ⊢
  rw [← hB] at HP ⊢
  have HBE := Lib.hid hB
  clear hB
  rw [show B + 1 + 1 + 1 + 1 + 1 = B + 5 from rfl, show B + 1 + 1 + 1 + 1 = B + 4 from rfl, show B + 1 + 1 + 1 = B + 3 from rfl, show B + 1 + 1 = B + 2 from rfl]
  go_loopw [10] (fun _ wr => ∃ (pos : Nat) (t : PSt), PsAt w wr B s pos t.f t.k t.n t.g ∧ runP (s.data.toList.drop pos) t = runP s.data.toList startP ∧ t.k ≤ 4 ∧ t.n ≤ 255 ∧ t.g ≤ pos ∧ pos ≤ s.size) (fun _ wr => s.size - wr.iterPos (B + 5))
  case atStart => exact ⟨0, startP, HP.out, rfl, by decide, by decide, by decide, Nat.zero_le _⟩
  case round =>
    obtain ⟨pos, t, hps, hrun, hk, hn, hg, hpl⟩ := hrel
    obtain ⟨f, k, n, g⟩ := t
    have HPS := Lib.hid hps
    have HRUN := Lib.hid hrun
    have hit := hps.it
    clear hps hrun
    by_cases hp : pos < s.size
    · simp only at hk hn hg
      by_cases ha : (s[pos]'hp).toNat < 128
      · have hnx : ∀ ty, (Instr.next (.pointer (some ⟨B + 5, 0, none⟩)) true ty).run Tryd.prog wr = _ := fun ty => Lib.run_next_ascii_at wr (B + 5) s pos ty hit hp ha
        have HP1 := Lib.hid (HPS.out.on (pos + 1))
        clear hit
        have HBAD := Lib.hid (run_bad hp HRUN.out)
        have HON := Lib.hid (fun u => run_on (u := u) hp HRUN.out)
        have hms : s.size - (pos + 1) < s.size - pos := by omega
        have hip : wr.iterPos (B + 5) = pos := iterPos_of HPS.out.it
        clear HRUN HPS
        generalize hc : (s[pos]'hp).toNat = c at *
        clear hc
        have hc0 : (0 : Int) ≤ c := by omega
        generalize hw2 : wr.iterAt (B + 5) s (pos + 1) = w2 at HP1 hnx
        clear hw2
        by_cases h46 : c = 46
        · subst h46
          have hd46 : (((46 : Nat) : Int) == 46) = true := rfl
          go_wp2_with fail
          by_cases hend : g = 0 ∨ k = 4
          · refine (end_no HP1.out (hend.imp (fun e => by rw [e]; rfl) id)).mono ?_
            rintro e w3 ⟨rfl, rfl⟩
            have HN := Lib.hid (HBAD.out (by rw [stepP, if_pos rfl, endP, if_pos hend]))
            obtain ⟨⟨c2, c3, c4⟩, ⟨f3g, f4g⟩, ⟨q0, q1, q2, q3⟩, f0, f1, f2, f3⟩ := HP1.out.facts
            have hbz := Lib.hid (below_zero HP1.out.bel (.int .u8 0) (.int .u8 0) (.int .u8 0) (.int .u8 0))
            go_wp2
            refine bodyPost_ret (v := .tuple #[.agg (row4 fun _ => 0), .bool false]) (by simp [results, Tryd.results14, go_sem, row4, q0, q1, q2, q3]) rfl ⟨ret_none HN.out, HBE.out ▸ hbz.out⟩
          · refine (end_yes HP1.out (by omega) (by omega) (by omega) (by omega)).mono ?_
            rintro e w3 ⟨rfl, hp3⟩
            have HP3 := Lib.hid hp3
            clear hp3
            have HN := Lib.hid (HON.out ⟨upd4 f k n, k + 1, 0, 0⟩ (by rw [stepP, if_pos rfl, endP, if_neg hend]))
            go_wp2
            go_roundw
            case rel => exact ⟨pos + 1, ⟨upd4 f k n, k + 1, 0, 0⟩, HP3.out, HN.out, by simp only; omega, by simp, by simp, by omega⟩
            case measure => rw [hip, iterPos_of HP3.out.it]; exact hms
        · have d46 : ((c : Int) == 46) = false := by simp; omega
          by_cases hbad : c < 48 ∨ 57 < c ∨ (0 < g ∧ n = 0)
          · have HN := Lib.hid (HBAD.out (by rw [stepP, if_neg h46, if_pos hbad]))
            by_cases b1 : c < 48
            · have e48 : decide ((c : Int) < 48) = true := by simp; omega
              obtain ⟨⟨c2, c3, c4⟩, ⟨f3g, f4g⟩, ⟨q0, q1, q2, q3⟩, f0, f1, f2, f3⟩ := HP1.out.facts
              have hbz := Lib.hid (below_zero HP1.out.bel (.int .u8 0) (.int .u8 0) (.int .u8 0) (.int .u8 0))
              go_wp2
              refine bodyPost_ret (v := .tuple #[.agg (row4 fun _ => 0), .bool false]) (by simp [results, Tryd.results14, go_sem, row4, q0, q1, q2, q3]) rfl ⟨ret_none HN.out, HBE.out ▸ hbz.out⟩
            · have e48 : decide ((c : Int) < 48) = false := by simp; omega
              by_cases b2 : 57 < c
              · have e57 : decide ((c : Int) > 57) = true := by simp; omega
                obtain ⟨⟨c2, c3, c4⟩, ⟨f3g, f4g⟩, ⟨q0, q1, q2, q3⟩, f0, f1, f2, f3⟩ := HP1.out.facts
                have hbz := Lib.hid (below_zero HP1.out.bel (.int .u8 0) (.int .u8 0) (.int .u8 0) (.int .u8 0))
                go_wp2
                refine bodyPost_ret (v := .tuple #[.agg (row4 fun _ => 0), .bool false]) (by simp [results, Tryd.results14, go_sem, row4, q0, q1, q2, q3]) rfl ⟨ret_none HN.out, HBE.out ▸ hbz.out⟩
              · have e57 : decide ((c : Int) > 57) = false := by simp; omega
                have hgn : 0 < g ∧ n = 0 := by omega
                obtain ⟨hg0, rfl⟩ := hgn
                have eg : decide ((g : Int) > 0) = true := by simp; omega
                have en : (((0 : Nat) : Int) == 0) = true := rfl
                obtain ⟨⟨c2, c3, c4⟩, ⟨f3g, f4g⟩, ⟨q0, q1, q2, q3⟩, f0, f1, f2, f3⟩ := HP1.out.facts
                have hbz := Lib.hid (below_zero HP1.out.bel (.int .u8 0) (.int .u8 0) (.int .u8 0) (.int .u8 0))
                go_wp2
                refine bodyPost_ret (v := .tuple #[.agg (row4 fun _ => 0), .bool false]) (by simp [results, Tryd.results14, go_sem, row4, q0, q1, q2, q3]) rfl ⟨ret_none HN.out, HBE.out ▸ hbz.out⟩
          · have e48 : decide ((c : Int) < 48) = false := by simp; omega
            have e57 : decide ((c : Int) > 57) = false := by simp; omega
            have w1 : IntKind.i64.wrap (10 * (n : Int)) = 10 * n := IntWalk.i64_in _ (by omega)
            have w3 : IntKind.i32.wrap ((c : Int) - 48) = (c : Int) - 48 := by simp [IntKind.wrap, IntKind.bits, IntKind.signed]; omega
            have w4 : IntKind.i64.wrap ((c : Int) - 48) = (c : Int) - 48 := IntWalk.i64_in _ (by omega)
            obtain ⟨m, hm⟩ : ∃ m : Nat, m = 10 * n + (c - 48) := ⟨_, rfl⟩
            have w5 : IntKind.i64.wrap (10 * (n : Int) + ((c : Int) - 48)) = (m : Int) := by rw [IntWalk.i64_in _ (by omega)]; omega
            have w6 : IntKind.i64.wrap ((g : Int) + 1) = (g : Int) + 1 := IntWalk.i64_in _ (by omega)
            have HP3 := Lib.hid ((HP1.out.setN (m : Int)).setG ((g : Int) + 1))
            have hbz := Lib.hid (below_zero HP3.out.bel (.int .u8 0) (.int .u8 0) (.int .u8 0) (.int .u8 0))
            have en : decide ((g : Int) > 0) = false ∨ (decide ((g : Int) > 0) = true ∧ ((n : Int) == 0) = false) := by
              by_cases hg0 : g = 0
              · left; simp; omega
              · right; simp; omega
            obtain ⟨⟨c2, c3, c4⟩, ⟨f3g, f4g⟩, ⟨q0, q1, q2, q3⟩, f0, f1, f2, f3⟩ := HP1.out.facts
            by_cases h255 : 255 < m
            · have HN := Lib.hid (HBAD.out (by rw [stepP, if_neg h46, if_neg hbad, if_pos (show 255 < 10 * n + (c - 48) by omega)]))
              have e255 : decide ((m : Int) > 255) = true := by simp; omega
              clear HBAD HON hm hms hip
              rcases en with en | ⟨en, en2⟩
              · go_wp2
                all_goals first | (exfalso; omega) | (refine bodyPost_ret (v := .tuple #[.agg (row4 fun _ => 0), .bool false]) (by simp [results, Tryd.results14, go_sem, row4, q0, q1, q2, q3]) rfl ⟨ret_none HN.out, HBE.out ▸ hbz.out⟩)
              · go_wp2
                all_goals first | (exfalso; omega) | (refine bodyPost_ret (v := .tuple #[.agg (row4 fun _ => 0), .bool false]) (by simp [results, Tryd.results14, go_sem, row4, q0, q1, q2, q3]) rfl ⟨ret_none HN.out, HBE.out ▸ hbz.out⟩)
            · have HN := Lib.hid (HON.out ⟨f, k, m, g + 1⟩ (by rw [stepP, if_neg h46, if_neg hbad, if_neg (show ¬ 255 < 10 * n + (c - 48) by omega), hm]))
              have e255 : decide ((m : Int) > 255) = false := by simp; omega
              clear HBAD HON hm
              rcases en with en | ⟨en, en2⟩
              · go_wp2
                all_goals try (exfalso; omega)
                all_goals
                  go_roundw
                  case rel => exact ⟨pos + 1, ⟨f, k, m, g + 1⟩, HP3.out, HN.out, hk, by simp only; omega, by simp only; omega, by omega⟩
                  case measure => rw [hip, iterPos_of HP3.out.it]; exact hms
              · go_wp2
                all_goals try (exfalso; omega)
                all_goals
                  go_roundw
                  case rel => exact ⟨pos + 1, ⟨f, k, m, g + 1⟩, HP3.out, HN.out, hk, by simp only; omega, by simp only; omega, by omega⟩
                  case measure => rw [hip, iterPos_of HP3.out.it]; exact hms
      · have hnx : ∀ ty, (Instr.next (.pointer (some ⟨B + 5, 0, none⟩)) true ty).run Tryd.prog wr = _ := fun ty => Lib.run_next_any_at wr (B + 5) s pos ty hit hp
        have hhi := decode_high s pos hp (by omega)
        have HP1 := Lib.hid (HPS.out.on (pos + (Utf8.decode s pos).2))
        clear hit
        have HN := Lib.hid (run_bad hp HRUN.out (by rw [stepP, if_neg (by omega), if_pos (Or.inr (Or.inl (by omega)))]))
        clear HRUN HPS
        generalize hr : (Utf8.decode s pos).1 = r at *
        generalize hw2 : wr.iterAt (B + 5) s (pos + (Utf8.decode s pos).2) = w2 at HP1 hnx
        clear hw2 hr
        have d46 : ((r : Int) == 46) = false := by simp; omega
        have e48 : decide ((r : Int) < 48) = false := by simp; omega
        have e57 : decide ((r : Int) > 57) = true := by simp; omega
        obtain ⟨⟨c2, c3, c4⟩, ⟨f3g, f4g⟩, ⟨q0, q1, q2, q3⟩, f0, f1, f2, f3⟩ := HP1.out.facts
        have hbz := Lib.hid (below_zero HP1.out.bel (.int .u8 0) (.int .u8 0) (.int .u8 0) (.int .u8 0))
        go_wp2
        refine bodyPost_ret (v := .tuple #[.agg (row4 fun _ => 0), .bool false]) (by simp [results, Tryd.results14, go_sem, row4, q0, q1, q2, q3]) rfl ⟨ret_none HN.out, HBE.out ▸ hbz.out⟩
    · have hnx : ∀ ty, (Instr.next (.pointer (some ⟨B + 5, 0, none⟩)) true ty).run Tryd.prog wr = _ := fun ty => Lib.run_next_end_at wr (B + 5) s pos ty hit hp
      clear hit
      simp only at hk hn hg
      have hpp : pos = s.size := by omega
      have HEND := Lib.hid (parse_end (l := s.data.toList) (t := ⟨f, k, n, g⟩) (by rw [← HRUN.out, List.drop_of_length_le (by simp [hpp])]; rfl))
      go_wp2_with fail
      by_cases hend : g = 0 ∨ k = 4
      · refine (end_no HPS.out (hend.imp (fun e => by rw [e]; rfl) id)).mono ?_
        rintro e w2 ⟨rfl, rfl⟩
        have HN := Lib.hid (show parseP s.data.toList = none by rw [HEND.out, endP, if_pos hend]; rfl)
        obtain ⟨⟨c2, c3, c4⟩, -, ⟨q0, q1, q2, q3⟩, f0, f1, f2, f3⟩ := HPS.out.facts
        have hbz := Lib.hid (below_zero HPS.out.bel (.int .u8 0) (.int .u8 0) (.int .u8 0) (.int .u8 0))
        go_wp2
        refine bodyPost_ret (v := .tuple #[.agg (row4 fun _ => 0), .bool false]) (by simp [results, Tryd.results14, go_sem, row4, q0, q1, q2, q3]) rfl ⟨ret_none HN.out, HBE.out ▸ hbz.out⟩
      · refine (end_yes HPS.out (by omega) (by omega) (by omega) (by omega)).mono ?_
        rintro e w2 ⟨rfl, hp2⟩
        have HP2 := Lib.hid hp2
        clear hp2
        have HE := Lib.hid (show endP ⟨f, k, n, g⟩ = some ⟨upd4 f k n, k + 1, 0, 0⟩ by rw [endP, if_neg hend])
        by_cases h4 : k + 1 = 4
        · obtain rfl : k = 3 := by omega
          have HN := Lib.hid (show parseP s.data.toList = some (upd4 f 3 n) by rw [HEND.out, HE.out]; rfl)
          generalize upd4 f 3 n = f' at HP2 HN
          obtain ⟨⟨c2, c3, c4⟩, -, ⟨q0, q1, q2, q3⟩, f0, f1, f2, f3⟩ := HP2.out.facts
          change w2.cell? ⟨B + 2, 0, none⟩ = some (.int .i64 4) at c2
          have r0 : w2.cell? ⟨B + 1, 0, none⟩ = some (.int .u8 (f' 0)) := by rw [cell_of_row _ _ _ _ _ (0, 0) HP2.out.ra]; rfl
          have r1 : w2.cell? ⟨B + 1, 1, none⟩ = some (.int .u8 (f' 1)) := by rw [cell_of_row _ _ _ _ _ (0, 0) HP2.out.ra]; rfl
          have r2 : w2.cell? ⟨B + 1, 2, none⟩ = some (.int .u8 (f' 2)) := by rw [cell_of_row _ _ _ _ _ (0, 0) HP2.out.ra]; rfl
          have r3 : w2.cell? ⟨B + 1, 3, none⟩ = some (.int .u8 (f' 3)) := by rw [cell_of_row _ _ _ _ _ (0, 0) HP2.out.ra]; rfl
          have hbz := Lib.hid (below_zero HP2.out.bel (.int .u8 (f' 0)) (.int .u8 (f' 1)) (.int .u8 (f' 2)) (.int .u8 (f' 3)))
          go_wp2
          refine bodyPost_ret (v := .tuple #[.agg (row4 f'), .bool true]) (by simp [results, Tryd.results14, go_sem, row4, q0, q1, q2, q3]) rfl ⟨by rw [HN.out]; rfl, HBE.out ▸ hbz.out⟩
        · have HN := Lib.hid (show parseP s.data.toList = none by rw [HEND.out, HE.out]; show (if k + 1 = 4 then _ else _) = _; rw [if_neg h4])
          have d4 : (((k + 1 : Nat) : Int) != 4) = true := by simp; omega
          obtain ⟨⟨c2, c3, c4⟩, -, ⟨q0, q1, q2, q3⟩, f0, f1, f2, f3⟩ := HP2.out.facts
          have hbz := Lib.hid (below_zero HP2.out.bel (.int .u8 0) (.int .u8 0) (.int .u8 0) (.int .u8 0))
          go_wp2
          refine bodyPost_ret (v := .tuple #[.agg (row4 fun _ => 0), .bool false]) (by simp [results, Tryd.results14, go_sem, row4, q0, q1, q2, q3]) rfl ⟨ret_none HN.out, HBE.out ▸ hbz.out⟩
end Go.Proofs.YtdnjgknnckoagaaDoor
