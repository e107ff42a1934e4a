/-
  The reference's pool: New, Add.
-/
import Derived.Test.YtifadjakpllpfaaAt
namespace Go.Proofs.Ytifadjakpllpfaa
open Go.RowKit

set_option maxHeartbeats 1000000 in
theorem rnew_any (room : Int) (w : World) :
    Calls Try.prog 9 #[.int .i64 room] w fun e w' => e = .returned (if room < 1 ∨ 65536 < room then .agg #[.bool false, .int .i64 0, .slice none 0 0] else .agg #[.bool true, .int .i64 room, .slice none 0 0]) ∧ Below w.heap.size w w' := by
  by_cases h1 : room < 1
  · rw [if_pos (.inl h1)]
    go_enter Try.func9, Try.ntmps9
    go_wp2
    refine bodyPost_ret (by simp [results, Try.results9, go_sem]; try rfl) rfl ?_
    exact ⟨rfl, by go_grown⟩
  · by_cases h2 : 65536 < room
    · rw [if_pos (.inr h2)]
      go_enter Try.func9, Try.ntmps9
      go_wp2
      refine bodyPost_ret (by simp [results, Try.results9, go_sem]; try rfl) rfl ?_
      exact ⟨rfl, by go_grown⟩
    · rw [if_neg (by omega)]
      go_enter Try.func9, Try.ntmps9
      go_wp2
      refine bodyPost_ret (by simp [results, Try.results9, go_sem]; try rfl) rfl ?_
      exact ⟨rfl, by go_grown⟩

/-- the lowest place that is free -/
def xslot (xs : List XV) : Nat := xs.findIdx fun x => decide (x.uses ≤ 0)

theorem AtBox.set {w w' : World} {h : Nat} {b : Bool} {room : Int} {v : Value} {cs : List Value} (k : AtBox w w' h b room v cs) (hh : h = w.heap.size) (j : Nat) (u : Value) :
    AtBox w (w'.setCell ⟨h + 1, j, none⟩ u) h b room v (cs.set j u) := by
  refine ⟨k.below.setCell (by simp; omega) _, ?_, ?_, ?_⟩
  · rw [heap_setCell_other w' _ _ _ (by simp)]; exact k.one
  · rw [heap_setCell_same w' (h + 1) j _ _ _ k.two]; simp
  · rw [heap_setCell_other w' _ _ _ (by simp)]; exact k.three

/-- no pool: nothing is added -/
theorem radd_not (room : Int) (A : Option Addr) (n c : Nat) (kind int : Int) (text : ByteArray) (op : Int) (L : Option Addr) (ln lc : Nat) (port backup : Int) (R : Option Addr) (rn rc : Nat) (pipe : Bool) (uses : Int) (w : World) :
    Calls Try.prog 26 #[.agg #[.bool false, .int .i64 room, .slice A n c], .agg #[.int .i64 kind, .int .i64 int, .string text, .int .i64 op, .slice L ln lc, .int .i64 port, .int .i64 backup, .slice R rn rc, .bool pipe, .int .i64 uses]] w fun e w' =>
      e = .returned (.tuple #[.agg #[.bool false, .int .i64 room, .slice A n c], .int .i64 0, .int .i64 1]) ∧ Below w.heap.size w w' := by
  go_enter Try.func26, Try.ntmps26
  go_wp2
  refine bodyPost_ret (by simp [results, Try.results26, go_sem]; try rfl) rfl ?_
  exact ⟨rfl, by go_grown⟩

set_option maxHeartbeats 2000000 in
theorem radd_full (room : Int) (A : Option Addr) (n c : Nat) (xs : List XV) (kind int : Int) (text : ByteArray) (op : Int) (L : Option Addr) (ln lc : Nat) (port backup : Int) (R : Option Addr) (rn rc : Nat) (pipe : Bool) (uses : Int) (w : World) (hr : Rd xv 10 w A n xs) (hn : n ≤ 1000) (hf : (xused xs : Int) = room) :
    Calls Try.prog 26 #[.agg #[.bool true, .int .i64 room, .slice A n c], .agg #[.int .i64 kind, .int .i64 int, .string text, .int .i64 op, .slice L ln lc, .int .i64 port, .int .i64 backup, .slice R rn rc, .bool pipe, .int .i64 uses]] w fun e w' =>
      e = .returned (.tuple #[.agg #[.bool true, .int .i64 room, .slice A n c], .int .i64 0, .int .i64 30]) ∧ Below w.heap.size w w' := by
  have HL : Hid (∀ W, AtBox w W w.heap.size true room (.slice A n c) [.int .i64 kind, .int .i64 int, .string text, .int .i64 op, .slice L ln lc, .int .i64 port, .int .i64 backup, .slice R rn rc, .bool pipe, .int .i64 uses] →
      Calls Try.prog 22 #[.agg #[.bool true, .int .i64 room, .slice A n c]] W fun e W' => e = .returned (.int .i64 room) ∧
        (AtBox w W' w.heap.size true room (.slice A n c) [.int .i64 kind, .int .i64 int, .string text, .int .i64 op, .slice L ln lc, .int .i64 port, .int .i64 backup, .slice R rn rc, .bool pipe, .int .i64 uses] ∧
          W'.cell? ⟨w.heap.size, 0, none⟩ = some (.bool true) ∧ W'.cell? ⟨w.heap.size, 1, none⟩ = some (.int .i64 room) ∧ W'.cell? ⟨w.heap.size, 2, none⟩ = some (.slice A n c))) := fun W hW =>
    (rlen_any true room A n c xs W (hr.below hW.below) hn).mono fun e W' ⟨he, hb⟩ => by
      have hk := hW.next hb
      obtain ⟨c0, c1, c2, -⟩ := three_box hk.one
      exact ⟨by rw [he, hf], hk, c0, c1, c2⟩
  have KS := AtBox.start w true room (.slice A n c) [.int .i64 kind, .int .i64 int, .string text, .int .i64 op, .slice L ln lc, .int .i64 port, .int .i64 backup, .slice R rn rc, .bool pipe, .int .i64 uses]
  clear hr hf
  go_enter Try.func26, Try.ntmps26
  go_wp2_with fail
  generalize ((w.alloc _).alloc _).alloc _ = W0 at *
  obtain ⟨c0, c1, c2, -⟩ := three_box KS.one
  go_region_held3 (fun w' => AtBox w w' w.heap.size true room (.slice A n c) [.int .i64 kind, .int .i64 int, .string text, .int .i64 op, .slice L ln lc, .int .i64 port, .int .i64 backup, .slice R rn rc, .bool pipe, .int .i64 uses] ∧ w'.cell? ⟨w.heap.size, 0, none⟩ = some (.bool true) ∧ w'.cell? ⟨w.heap.size, 1, none⟩ = some (.int .i64 room) ∧ w'.cell? ⟨w.heap.size, 2, none⟩ = some (.slice A n c))
    (first | assumption | exact ⟨by assumption, by assumption, by assumption, by assumption⟩ | exact ⟨KS.next (Below.refl _ _).drew, by simpa using c0, by simpa using c1, by simpa using c2⟩)
    (first | (go_at_call 22; (refine (HL.out _ ?_).mono ?_); (exact And.left (by assumption)); rintro e w5 ⟨rfl, hb5, hd5, he5, hf5⟩))
  obtain ⟨d0, d1, d2, e0, e1, e2⟩ := three_box hb5.three
  go_wp2
  refine bodyPost_ret (by simp [results, Try.results26, go_sem, d0, d1, d2]; try rfl) rfl ?_
  exact ⟨rfl, (((hb5.below.setCell (by simp; omega) _).setCell (by simp; omega) _).setCell (by simp; omega) _)⟩

theorem xslot_used {xs : List XV} {k : Nat} {x : XV} (hk : k < xslot xs) (hx : xs[k]? = some x) : 0 < x.uses := by
  have h := List.not_of_lt_findIdx hk
  obtain ⟨hl, rfl⟩ := List.getElem?_eq_some_iff.1 hx
  simpa using h
theorem xslot_free {xs : List XV} {x : XV} (hx : xs[xslot xs]? = some x) : ¬ 0 < x.uses := by
  obtain ⟨hl, rfl⟩ := List.getElem?_eq_some_iff.1 hx
  have h := List.findIdx_getElem (w := hl)
  simp only [decide_eq_true_eq] at h
  show ¬ 0 < xs[xslot xs].uses
  unfold xslot
  omega

set_option maxHeartbeats 4000000 in
theorem radd_ok (room : Int) (A : Option Addr) (n c : Nat) (xs : List XV) (kind int : Int) (text : ByteArray) (op : Int) (L : Option Addr) (ln lc : Nat) (port backup : Int) (R : Option Addr) (rn rc : Nat) (pipe : Bool) (uses : Int) (w : World) (hr : Rd xv 10 w A n xs) (hn : n ≤ 1000) (hf : (xused xs : Int) ≠ room) :
    Calls Try.prog 26 #[.agg #[.bool true, .int .i64 room, .slice A n c], .agg #[.int .i64 kind, .int .i64 int, .string text, .int .i64 op, .slice L ln lc, .int .i64 port, .int .i64 backup, .slice R rn rc, .bool pipe, .int .i64 uses]] w fun e w' =>
      ∃ v m, e = .returned (.tuple #[.agg #[.bool true, .int .i64 room, v], .int .i64 (xslot xs), .int .i64 0]) ∧ w'.ownsRow w.heap.size 37 10 v m (flatE xv (put xs (xslot xs) ⟨kind, int, text, op, L, ln, lc, port, backup, R, rn, rc, pipe, 1⟩)) ∧ Below w.heap.size w w' := by
  have hsl : xslot xs ≤ n := by rw [← hr.1]; exact List.findIdx_le_length
  obtain ⟨q, hq⟩ : ∃ q : Int, q = xused xs := ⟨_, rfl⟩
  have hqr : (q == room) = false := by rw [hq]; simpa using hf
  have hxl := hr.1
  have HL : Hid (∀ W, AtBox w W w.heap.size true room (.slice A n c) [.int .i64 kind, .int .i64 int, .string text, .int .i64 op, .slice L ln lc, .int .i64 port, .int .i64 backup, .slice R rn rc, .bool pipe, .int .i64 uses] →
      Calls Try.prog 22 #[.agg #[.bool true, .int .i64 room, .slice A n c]] W fun e W' => e = .returned (.int .i64 q) ∧
        (AtBox w W' w.heap.size true room (.slice A n c) [.int .i64 kind, .int .i64 int, .string text, .int .i64 op, .slice L ln lc, .int .i64 port, .int .i64 backup, .slice R rn rc, .bool pipe, .int .i64 uses] ∧
          W'.cell? ⟨w.heap.size, 0, none⟩ = some (.bool true) ∧ W'.cell? ⟨w.heap.size, 1, none⟩ = some (.int .i64 room) ∧ W'.cell? ⟨w.heap.size, 2, none⟩ = some (.slice A n c))) := fun W hW =>
    (rlen_any true room A n c xs W (hr.below hW.below) hn).mono fun e W' ⟨he, hb⟩ => by
      have hk := hW.next hb
      obtain ⟨c0, c1, c2, -⟩ := three_box hk.one
      exact ⟨by rw [he, hq], hk, c0, c1, c2⟩
  have KS := AtBox.start w true room (.slice A n c) [.int .i64 kind, .int .i64 int, .string text, .int .i64 op, .slice L ln lc, .int .i64 port, .int .i64 backup, .slice R rn rc, .bool pipe, .int .i64 uses]
  have HR := Lib.hid hr
  clear hr hf hq
  obtain ⟨s, hs⟩ : ∃ s, s = xslot xs := ⟨_, rfl⟩
  have HA : Hid (∀ W, AtBox w W w.heap.size true room (.slice A n c) [.int .i64 kind, .int .i64 int, .string text, .int .i64 op, .slice L ln lc, .int .i64 port, .int .i64 backup, .slice R rn rc, .bool pipe, .int .i64 1] →
      Calls Try.prog 35 #[.agg #[.bool true, .int .i64 room, .slice A n c], .int .i64 s, .agg #[.int .i64 kind, .int .i64 int, .string text, .int .i64 op, .slice L ln lc, .int .i64 port, .int .i64 backup, .slice R rn rc, .bool pipe, .int .i64 1]] W fun e W' =>
        ∃ A' m c', e = .returned (.agg #[.bool true, .int .i64 room, .slice A' m c']) ∧ W'.ownsRow W.heap.size 37 10 (.slice A' m c') m (flatE xv (put xs s ⟨kind, int, text, op, L, ln, lc, port, backup, R, rn, rc, pipe, 1⟩)) ∧ AtBox w W' w.heap.size true room (.slice A n c) [.int .i64 kind, .int .i64 int, .string text, .int .i64 op, .slice L ln lc, .int .i64 port, .int .i64 backup, .slice R rn rc, .bool pipe, .int .i64 1]) := fun W hW => by
    by_cases hsn : s = n
    · subst hsn
      have h := at_new true room A s c xs ⟨kind, int, text, op, L, ln, lc, port, backup, R, rn, rc, pipe, 1⟩ W (HR.out.below hW.below) hn
      refine h.mono fun e W' ⟨v, he, ho, hb⟩ => ?_
      obtain ⟨A', c', rfl, -, -⟩ := Rd.of_own xv_len (by decide) ho
      refine ⟨A', _, c', he, ?_, hW.next hb⟩
      rw [put, if_pos (by rw [hxl])]
      exact ho
    · have h := at_set true room A n c s xs ⟨kind, int, text, op, L, ln, lc, port, backup, R, rn, rc, pipe, 1⟩ W (HR.out.below hW.below) hn (by omega)
      refine h.mono fun e W' ⟨v, he, ho, hb⟩ => ?_
      obtain ⟨A', c', rfl, -, -⟩ := Rd.of_own xv_len (by decide) ho
      refine ⟨A', _, c', he, ?_, hW.next hb⟩
      rw [put, if_neg (by omega)]
      exact ho
  rw [← hs] at hsl ⊢
  have HS := Lib.hid hs
  clear hs
  go_enter Try.func26, Try.ntmps26
  go_wp2_with fail
  generalize ((w.alloc _).alloc _).alloc _ = W0 at *
  obtain ⟨c0, c1, c2, -⟩ := three_box KS.one
  go_region_held3 (fun w' => AtBox w w' w.heap.size true room (.slice A n c) [.int .i64 kind, .int .i64 int, .string text, .int .i64 op, .slice L ln lc, .int .i64 port, .int .i64 backup, .slice R rn rc, .bool pipe, .int .i64 uses] ∧ w'.cell? ⟨w.heap.size, 0, none⟩ = some (.bool true) ∧ w'.cell? ⟨w.heap.size, 1, none⟩ = some (.int .i64 room) ∧ w'.cell? ⟨w.heap.size, 2, none⟩ = some (.slice A n c))
    (first | assumption | exact ⟨by assumption, by assumption, by assumption, by assumption⟩ | exact ⟨KS.next (Below.refl _ _).drew, by simpa using c0, by simpa using c1, by simpa using c2⟩)
    (first | (go_at_call 22; (refine (HL.out _ ?_).mono ?_); (exact And.left (by assumption)); rintro e w5 ⟨rfl, hb5, hd5, he5, hf5⟩))
  have KB5 := Lib.hid hb5
  clear hb5 KS
  go_wp2
  go_loopw [7] (fun v W => ∃ k : Nat, k ≤ s ∧ v = .int .i64 k ∧ AtBox w W w.heap.size true room (.slice A n c) [.int .i64 kind, .int .i64 int, .string text, .int .i64 op, .slice L ln lc, .int .i64 port, .int .i64 backup, .slice R rn rc, .bool pipe, .int .i64 uses]) (fun v _ => s - (intOf v).toNat)
  case atStart => exact ⟨0, Nat.zero_le _, rfl, KB5.out⟩
  case round =>
    obtain ⟨k, hk, rfl, hbx⟩ := hrel
    obtain ⟨q0, q1, q2, -⟩ := three_box hbx.one
    obtain ⟨g0, g1, g2, g3, g4, g5, g6, g7, g8, g9⟩ := ten_box hbx.two
    have HBX := Lib.hid hbx
    have hg9 := frozen_of_row _ (w.heap.size + 1) 9 _ _ hbx.two
    clear hbx
    by_cases hlt : k < n
    · obtain ⟨x, b, off, hx, hA, hcs⟩ := (HR.out.below HBX.out.below).at_ hlt
      subst hA
      have hc9 : wr.cell? ⟨b, off + k * 10 + 9, none⟩ = some (.int .i64 x.uses) := hcs 9 _ rfl
      have HX := Lib.hid hx
      have hkn : (k : Int) < n := by omega
      clear hx hcs
      by_cases hks : k < s
      · have hd : decide (x.uses > 0) = true := by
          have := xslot_used (by rw [← HS.out]; exact hks) HX.out
          simpa using this
        go_wp2
        go_roundw
        case rel => exact ⟨k + 1, by omega, by go_num, HBX.out⟩
        case measure => simp [intOf]; omega
      · have hks' : k = s := by omega
        subst hks'
        have hd : decide (x.uses > 0) = false := by
          have h := HX.out
          rw [HS.out] at h
          have := xslot_free h
          simpa using this
        go_wp2_with fail
        have kb6 := HBX.out.set rfl 9 (.int .i64 1)
        refine (HA.out _ kb6).mono ?_
        rintro e w6 ⟨A', m, c', rfl, ho, hb6⟩
        have hlt3 := (Array.getElem?_eq_some_iff.1 HBX.out.three).1
        have HO := Lib.hid ho
        obtain ⟨d0, d1, d2, e0, e1, e2⟩ := three_box hb6.three
        have HB6 := Lib.hid hb6
        clear ho hb6 kb6
        go_wp2
        refine bodyPost_ret (by simp [results, Try.results26, go_sem, d0, d1, d2]; try rfl) rfl ?_
        refine ⟨_, _, rfl, own_mono (ownsRow_setCell_below (ownsRow_setCell_below (ownsRow_setCell_below HO.out ?_ _) ?_ _) ?_ _) ?_, ((HB6.out.below.setCell ?_ _).setCell ?_ _).setCell ?_ _⟩
        all_goals first | (simp; done) | (simp; omega)
    · have hks' : k = s := by omega
      subst hks'
      have hkn : ¬ (k : Int) < n := by omega
      go_wp2_with fail
      have kb6 := HBX.out.set rfl 9 (.int .i64 1)
      refine (HA.out _ kb6).mono ?_
      rintro e w6 ⟨A', m, c', rfl, ho, hb6⟩
      have hlt3 := (Array.getElem?_eq_some_iff.1 HBX.out.three).1
      have HO := Lib.hid ho
      obtain ⟨d0, d1, d2, e0, e1, e2⟩ := three_box hb6.three
      have HB6 := Lib.hid hb6
      clear ho hb6 kb6
      go_wp2
      refine bodyPost_ret (by simp [results, Try.results26, go_sem, d0, d1, d2]; try rfl) rfl ?_
      refine ⟨_, _, rfl, own_mono (ownsRow_setCell_below (ownsRow_setCell_below (ownsRow_setCell_below HO.out ?_ _) ?_ _) ?_ _) ?_, ((HB6.out.below.setCell ?_ _).setCell ?_ _).setCell ?_ _⟩
      all_goals first | (simp; done) | (simp; omega)

end Go.Proofs.Ytifadjakpllpfaa
