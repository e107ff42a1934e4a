/-
  slices.Repeat of one number; a row written over by copy.
-/
import Derived.Test.YtmdcfiejkbhgpaaShS
import Derived.Test.YtmdcfiejkbhgpaaRDist
import Derived.Laws.CopyOwn
namespace Go.Proofs.Ytmdcfiejkbhgpaa
open Go.RowKit

theorem rowZ_full {w : World} {B b N : Nat} {Z : Int → Int} (h : RowZ w B b N Z) : w.heap[b]? = some (.cells (cellsN Z N).toArray 3 (0, 0)) := by
  rcases h.2 with ⟨h0, _⟩ | ⟨g, cap, cur, hv, hb, hg, hn, hc, hs, ht⟩
  · cases h0
  · cases hv
    rw [hg]
    have e : cur.toList = cellsN Z N := by rw [← ht, List.take_of_length_le]; simp [hs]
    rw [← e]
theorem rowZ_of {w : World} {B b N : Nat} {Z : Int → Int} (hB : B ≤ b) (hN : N ≤ 1000) (h : w.heap[b]? = some (.cells (cellsN Z N).toArray 3 (0, 0))) : RowZ w B b N Z := by
  have hl : (cellsN Z N).length = N := by simp [cellsN]
  refine ⟨by simp [hl], .inr ⟨b, N, _, rfl, hB, h, Nat.le_refl _, by unfold maxLen; omega, by simp [hl], ?_⟩⟩
  rw [List.take_of_length_le (by simp [hl])]
/-- the first m are -1 already -/
def repL (N m : Nat) : List Value := List.replicate m (.int .i64 (-1)) ++ List.replicate (N - m) (.int .i64 0)
def negs (c : Nat) : List Value := List.replicate c (.int .i64 (-1))
theorem repL_len {N m : Nat} (h : m ≤ N) : (repL N m).length = N := by simp [repL]; omega
theorem repL_splice {N m c : Nat} : splice (repL N m) m (negs c) = repL N (m + c) := by
  unfold splice repL negs
  rw [List.take_left' (by simp), List.length_replicate, List.drop_append, List.length_replicate, show m + c - m = c by omega, List.drop_eq_nil_of_le (by simp), List.nil_append, List.drop_replicate, ← List.append_assoc, List.replicate_append_replicate, show N - m - c = N - (m + c) by omega]
theorem repL_zero (N : Nat) : repL N 0 = cellsN (fun _ => 0) N := by simp [repL, cellsN, List.map_const']
theorem repL_all (N : Nat) : repL N N = cellsN (fun _ => -1) N := by simp [repL, cellsN, List.map_const']
theorem negs_at {c j : Nat} {v : Value} (h : (negs c)[j]? = some v) : j < c ∧ v = .int .i64 (-1) := by
  unfold negs at h
  have hj : j < c := by have := (List.getElem?_eq_some_iff.1 h).1; simpa using this
  refine ⟨hj, ?_⟩
  rw [List.getElem?_replicate, if_pos hj] at h
  exact (Option.some.inj h).symm
theorem negs_one (c : Nat) : ∀ v ∈ negs c, v.oneCell' = true := by
  intro v hv
  have := List.eq_of_mem_replicate hv
  subst this
  rfl
def RepAt (w : World) (b N m : Nat) : Prop := w.heap[b]? = some (.cells (repL N m).toArray 3 (0, 0))
theorem RepAt.src {w : World} {b N m : Nat} (h : RepAt w b N m) {c : Nat} (hc : c ≤ m) : ∀ j v, (negs c)[j]? = some v → w.cell? ((⟨b, 0, none⟩ : Addr).add j) = some v := by
  intro j v hv
  obtain ⟨hj, rfl⟩ := negs_at hv
  have hadd : (⟨b, 0, none⟩ : Addr).add j = ⟨b, j, none⟩ := by unfold Addr.add; split <;> simp_all
  have h' : w.heap[b]? = _ := h
  rw [hadd, cell_of_row _ _ _ _ _ (0, 0) h']
  simp [repL, List.getElem?_append, show j < m by omega]
theorem sizeI : (Try.prog.info? 3).map (·.size) = some 1 := by kernel_rfl

set_option maxRecDepth 100000 in
set_option maxHeartbeats 8000000 in
theorem repeat_any {w : World} {b0 : Nat} (hc0 : w.cell? ⟨b0, 0, none⟩ = some (.int .i64 (-1))) {N : Nat} (h1 : 1 ≤ N) (hN : N ≤ 64) :
    Calls Try.prog 67 #[.slice (some ⟨b0, 0, none⟩) 1 1, .int .i64 N] w fun e w' => ∃ b, e = .returned (.slice (some ⟨b, 0, none⟩) N N) ∧ RowZ w' w.heap.size b N (fun _ => -1) ∧ Below w.heap.size w w' := by
  obtain ⟨wm, hmk, hrow, hbm⟩ := make_row (B := w.heap.size) (N := N) (Nat.le_refl _) (by omega)
  have hfull := rowZ_full hrow
  rw [← repL_zero] at hfull
  have HF := Lib.hid (show RepAt wm w.heap.size N 0 from hfull)
  have HB := Lib.hid hbm
  have HS := Lib.hid (show ∀ j v, (negs 1)[j]? = some v → wm.cell? ((⟨b0, 0, none⟩ : Addr).add j) = some v from by
    intro j v hv
    obtain ⟨hj, rfl⟩ := negs_at hv
    obtain rfl : j = 0 := by omega
    exact (hbm.cell (p := ⟨b0, 0, none⟩) (World.block_lt_of_cell? w _ hc0)).trans hc0)
  clear hrow hfull hbm
  have HL1 := Lib.hid (show (negs 1).length = Nat.min 1 N by rw [show Nat.min 1 N = 1 from Nat.min_eq_left h1]; rfl)
  have HL2 := Lib.hid (show 0 + (negs 1).length ≤ (repL N 0).length by rw [repL_len (by omega)]; simp [negs]; omega)
  have HF0 := Lib.hid (show wm.heap[w.heap.size]? = some (.cells (repL N 0).toArray 3 (0, 0)) from HF.out)
  have HMUL := Lib.hid (mul_calls N (by omega))
  go_enter Try.func67, Try.ntmps67
  go_wp2_with (first
    | (go_at_call 75; refine (HMUL.out _).mono ?_; rintro e w2 ⟨rfl, hww⟩; obtain rfl := hww.symm; clear hww)
    | (with_reducible show wpList _ _ _ (⟨_, .call ⟨.builtin .copy, _, _⟩, _, _, _, _⟩ :: _) _ _; refine wpList_copy_splice rfl _ _ 29 29 rfl 3 Try.underlying29 sizeI _ _ _ _ _ _ rfl rfl w.heap.size 0 (repL N 0) 3 HF0.out (negs 1) HL1.out (fun _ => ⟨rfl, _, rfl, HS.out⟩) HL2.out (negs_one 1) w.heap.size w HB.out (Nat.le_refl _) ?_; intro w3 hg3 hb3))
  have HF1 := Lib.hid (show RepAt w3 w.heap.size N 1 from by
    have h := hg3.out
    rw [repL_splice] at h
    exact h)
  have HB3 := Lib.hid hb3
  clear hg3 hb3 HF HB HS HL1 HL2 HMUL hmk
  have e1 : (negs 1).length = 1 := rfl
  go_loopw [8] (fun v wr => ∃ m : Nat, 1 ≤ m ∧ m ≤ N ∧ v = .int .i64 m ∧ RepAt wr w.heap.size N m ∧ Below w.heap.size w wr) (fun v _ => N - (intOf v).toNat)
  case atStart => exact ⟨1, Nat.le_refl _, h1, by simp [e1], HF1.out, HB3.out⟩
  case round =>
    obtain ⟨m, hm1, hmN, rfl, hrp, hbr⟩ := hrel
    have HR := Lib.hid hrp
    have HBR := Lib.hid hbr
    clear hrp hbr HF1 HB3
    by_cases hlt : m < N
    · obtain ⟨c, hc⟩ : ∃ c, c = Nat.min m (N - m) := ⟨_, rfl⟩
      have hcm : c ≤ m := by rw [hc]; exact Nat.min_le_left _ _
      have hcN : m + c ≤ N := by
        have h2 : c ≤ N - m := by rw [hc]; exact Nat.min_le_right m (N - m)
        omega
      have hc1 : 1 ≤ c := by rw [hc]; exact Nat.le_min.2 ⟨hm1, by omega⟩
      have HL1 := Lib.hid (show (negs c).length = Nat.min m (N - m) by rw [← hc]; simp [negs])
      have HL2 := Lib.hid (show m + (negs c).length ≤ (repL N m).length by rw [repL_len hmN]; simp [negs]; omega)
      have hcl : (negs c).length = c := by simp [negs]
      have hmi : (m : Int) < N := by omega
      clear hc
      go_wp2_with fail
      go_upto_region 9 with fail
      have hnm : ¬ N = m := by omega
      have HWR := Lib.hid (show IntKind.i64.wrap ((m : Int) + (c : Int)) = (m : Int) + (c : Int) by rw [IntKind.wrap_i64]; omega)
      have HSR := Lib.hid (HR.out.src hcm)
      have HBD2 := Lib.hid (HBR.out.trans ((below_dN 1).mono HBR.out.size))
      go_region_law (refine step_copy_splice rfl (.tmp 41) (.tmp 44) 29 29 rfl 3 Try.underlying29 sizeI (some ⟨w.heap.size, m, none⟩) (some ⟨w.heap.size, 0, none⟩) (N - m) (N - m) m N (by go_simp) (by go_simp) w.heap.size m (repL N m) 3 HR.out (negs c) HL1.out (fun _ => ⟨rfl, _, rfl, HSR.out⟩) HL2.out (negs_one c) w.heap.size w HBD2.out (Nat.le_refl _) ?_; intro w4 hg4 hb4)
      simp only [go_sem]
      simp
      have HR4 := Lib.hid (show RepAt w4 w.heap.size N (m + c) from by
        have h := hg4.out
        rw [repL_splice] at h
        exact h)
      have HB4 := Lib.hid hb4
      clear hg4 hb4
      go_wp2
      rw [HWR.out]
      refine ⟨⟨_, _, _, _, _, _, _, _, _, _, _, _, _, _, ⟨m + c, by omega, hcN, by go_num, HR4.out, HB4.out⟩, rfl⟩, ?_⟩
      simp [intOf]; omega
    · obtain rfl : m = N := by omega
      go_wp2_with fail
      go_ret
      exact ⟨w.heap.size, rfl, rowZ_of (Nat.le_refl _) (by omega) (by rw [← repL_all]; exact HR.out), HBR.out⟩
end Go.Proofs.Ytmdcfiejkbhgpaa
