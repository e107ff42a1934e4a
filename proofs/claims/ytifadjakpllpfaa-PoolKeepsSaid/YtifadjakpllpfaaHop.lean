/-
  Hops in memory: slices.Clone at numbers; copied.
-/
import Derived.Test.YtifadjakpllpfaaAdd
namespace Go.Proofs.Ytifadjakpllpfaa
open Go.RowKit

/-- a number's cell -/
def int1 (x : Int) : List Value := [.int .i64 x]
theorem int1_len (x : Int) : (int1 x).length = 1 := rfl
theorem int1_one (l : List Int) : ∀ u ∈ flatE int1 l, u.oneCell' = true := by
  intro u hu
  obtain ⟨x, _, h⟩ := List.mem_flatMap.1 hu
  simp [int1] at h
  subst h
  rfl
theorem info_int : (Try.prog.info? 3).map (fun i => (i.zero, i.size, i.bytes)) = some (some (.int .i64 0), 1, 8) := by kernel_rfl

set_option maxHeartbeats 1000000 in
theorem clone_any (A : Option Addr) (n c : Nat) (l : List Int) (w : World) (hl : Rd int1 1 w A n l) (hn : n ≤ 1000000) :
    Calls Try.prog 36 #[.slice A n c] w fun e w' => ∃ v, e = .returned v ∧ w'.ownsRow w.heap.size 3 1 v n (flatE int1 l) ∧ Below w.heap.size w w' := by
  have hnil := fun W => Lib.run_eql_slice_nil (P := Try.prog) W 23 3 A n c 0 0 Try.underlying23
  obtain ⟨i0, hi, hz0, hz1, hz2⟩ := info_parts info_int
  have HL := Lib.hid hl
  have HI := Lib.hid hi; have HZ0 := Lib.hid hz0; have HZ1 := Lib.hid hz1; have HZ2 := Lib.hid hz2
  clear hl hi hz0 hz1 hz2
  cases A with
  | none =>
    obtain ⟨rfl, rfl⟩ := HL.out.nil_of
    go_enter Try.func36, Try.ntmps36
    go_wp2
    go_ret
    exact ⟨_, rfl, World.ownsRow_nil _ _ _ _, Below.refl _ _⟩
  | some a =>
    by_cases h0 : n = 0
    · subst h0
      obtain rfl : l = [] := List.eq_nil_of_length_eq_zero HL.out.1
      go_enter Try.func36, Try.ntmps36
      go_wp2
      go_ret
      exact ⟨_, rfl, World.ownsRow_lit w #[] 0 (Nat.le_refl _) (by simp [maxLen]) rfl, by go_grown⟩
    · obtain ⟨x, b, off, -, hA, -⟩ := HL.out.at_ (show 0 < n by omega)
      injection hA with hA
      subst hA
      go_enter Try.func36, Try.ntmps36
      go_wp2_with
        (at_builtin
         refine wpList_append_own _ rfl _ _ 23 rfl w.heap.size 3 i0 (.int .i64 0) 1 8 Try.underlying23 HI.out HZ0.out HZ1.out HZ2.out rfl (by decide) _ 0 _ rfl
           (World.ownsRow_lit w #[] 0 (Nat.le_refl _) (by simp [maxLen]) rfl) ⟨b, off, none⟩ n c (flatE int1 l) rfl (by rw [flatE_length int1_len, HL.out.1]) (Rd.cells int1_len (by decide) (HL.out.below (by go_grown))) (int1_one l) (by simp [maxLen]; omega) (by omega) (by simp) ?_
         intro v' w1 hown hgrow _)
      go_ret
      refine ⟨v', rfl, by simpa using hown, ?_⟩
      exact ((Below.refl _ w).alloc (Nat.le_refl _) _).grown hgrow (by simp) (fun k hk => Nat.le_of_eq (Option.some.inj (show some w.heap.size = some k from hk)))

/-- the world behind the boxes of copied: h, h + 1 are the boxes -/
structure Boxed (w w' : World) (h : Nat) (op L port backup R pipe : Value) : Prop where
  below : Below w.heap.size w w'
  blk : w'.heap[h]? = some (.cells #[op, L, port, backup, R, pipe] 35 (0, 0))
  two : w'.heap[h + 1]? = some (.cells #[.int .i64 0, .slice none 0 0, .int .i64 0, .int .i64 0, .slice none 0 0, .bool false] 35 (0, 0))
theorem Boxed.next {w w' w2 : World} {h : Nat} {op L port backup R pipe : Value} (k : Boxed w w' h op L port backup R pipe) (hb : Below w'.heap.size w' w2) : Boxed w w2 h op L port backup R pipe :=
  ⟨below_step k.below hb, (hb.block _ (Array.getElem?_eq_some_iff.1 k.blk).1).trans k.blk, (hb.block _ (Array.getElem?_eq_some_iff.1 k.two).1).trans k.two⟩
theorem Boxed.c {w w' : World} {h : Nat} {op L port backup R pipe : Value} (k : Boxed w w' h op L port backup R pipe) :
    w'.cell? ⟨h, 1, none⟩ = some L ∧ w'.cell? ⟨h, 4, none⟩ = some R ∧ w'.frozen? ⟨h, 1, none⟩ = false ∧ w'.frozen? ⟨h, 4, none⟩ = false := by
  refine ⟨?_, ?_, frozen_of_row w' h 1 _ _ k.blk, frozen_of_row w' h 4 _ _ k.blk⟩ <;> (rw [cell_of_row w' h _ _ _ (0, 0) k.blk]; rfl)

theorem Boxed.six {w w' : World} {h : Nat} {op L port backup R pipe : Value} (k : Boxed w w' h op L port backup R pipe) :
    w'.cell? ⟨h, 0, none⟩ = some op ∧ w'.cell? ⟨h, 2, none⟩ = some port ∧ w'.cell? ⟨h, 3, none⟩ = some backup ∧ w'.cell? ⟨h, 5, none⟩ = some pipe ∧
      w'.cell? ⟨h + 1, 0, none⟩ = some (.int .i64 0) ∧ w'.cell? ⟨h + 1, 1, none⟩ = some (.slice none 0 0) ∧ w'.cell? ⟨h + 1, 2, none⟩ = some (.int .i64 0) ∧ w'.cell? ⟨h + 1, 3, none⟩ = some (.int .i64 0) ∧ w'.cell? ⟨h + 1, 4, none⟩ = some (.slice none 0 0) ∧ w'.cell? ⟨h + 1, 5, none⟩ = some (.bool false) ∧
      w'.frozen? ⟨h + 1, 0, none⟩ = false ∧ w'.frozen? ⟨h + 1, 1, none⟩ = false ∧ w'.frozen? ⟨h + 1, 2, none⟩ = false ∧ w'.frozen? ⟨h + 1, 3, none⟩ = false ∧ w'.frozen? ⟨h + 1, 4, none⟩ = false ∧ w'.frozen? ⟨h + 1, 5, none⟩ = false := by
  refine ⟨?_, ?_, ?_, ?_, ?_, ?_, ?_, ?_, ?_, ?_, frozen_of_row w' _ _ _ _ k.two, frozen_of_row w' _ _ _ _ k.two, frozen_of_row w' _ _ _ _ k.two, frozen_of_row w' _ _ _ _ k.two, frozen_of_row w' _ _ _ _ k.two, frozen_of_row w' _ _ _ _ k.two⟩
  · rw [cell_of_row w' h _ _ _ (0, 0) k.blk]; rfl
  · rw [cell_of_row w' h _ _ _ (0, 0) k.blk]; rfl
  · rw [cell_of_row w' h _ _ _ (0, 0) k.blk]; rfl
  · rw [cell_of_row w' h _ _ _ (0, 0) k.blk]; rfl
  · rw [cell_of_row w' (h + 1) _ _ _ (0, 0) k.two]; rfl
  · rw [cell_of_row w' (h + 1) _ _ _ (0, 0) k.two]; rfl
  · rw [cell_of_row w' (h + 1) _ _ _ (0, 0) k.two]; rfl
  · rw [cell_of_row w' (h + 1) _ _ _ (0, 0) k.two]; rfl
  · rw [cell_of_row w' (h + 1) _ _ _ (0, 0) k.two]; rfl
  · rw [cell_of_row w' (h + 1) _ _ _ (0, 0) k.two]; rfl

set_option maxHeartbeats 1000000 in
theorem copied_any (op port backup : Int) (L R : Option Addr) (ln lc rn rc : Nat) (pipe : Bool) (ll rl : List Int) (w : World) (hl : Rd int1 1 w L ln ll) (hr : Rd int1 1 w R rn rl) (hln : ln ≤ 1000000) (hrn : rn ≤ 1000000) :
    Calls Try.prog 30 #[.agg #[.int .i64 op, .slice L ln lc, .int .i64 port, .int .i64 backup, .slice R rn rc, .bool pipe]] w fun e w' =>
      ∃ vl vr, e = .returned (.agg #[.int .i64 op, vl, .int .i64 port, .int .i64 backup, vr, .bool pipe]) ∧ w'.ownsRow w.heap.size 3 1 vl ln (flatE int1 ll) ∧ w'.ownsRow w.heap.size 3 1 vr rn (flatE int1 rl) ∧ Below w.heap.size w w' := by
  have HL : ∀ W, Boxed w W w.heap.size (.int .i64 op) (.slice L ln lc) (.int .i64 port) (.int .i64 backup) (.slice R rn rc) (.bool pipe) → Calls Try.prog 36 #[.slice L ln lc] W fun e w' =>
      ∃ A c, e = .returned (.slice A ln c) ∧ (Boxed w w' w.heap.size (.int .i64 op) (.slice L ln lc) (.int .i64 port) (.int .i64 backup) (.slice R rn rc) (.bool pipe) ∧ w'.cell? ⟨w.heap.size, 1, none⟩ = some (.slice L ln lc) ∧ w'.cell? ⟨w.heap.size, 4, none⟩ = some (.slice R rn rc) ∧ w'.frozen? ⟨w.heap.size, 1, none⟩ = false ∧ w'.frozen? ⟨w.heap.size, 4, none⟩ = false) ∧
        w'.ownsRow (w.heap.size + 2) 3 1 (.slice A ln c) ln (flatE int1 ll) ∧ Below W.heap.size W w' := fun W hW =>
    (clone_any L ln lc ll W (hl.below hW.below) hln).mono fun e w' ⟨v, he, ho, hb⟩ => by
      obtain ⟨A, c, rfl, -, -⟩ := Rd.of_own int1_len (by decide) ho
      exact ⟨A, c, he, ⟨hW.next hb, (hW.next hb).c⟩, own_mono ho (by have := (Array.getElem?_eq_some_iff.1 hW.two).1; omega), hb⟩
  have HR : ∀ W, Boxed w W w.heap.size (.int .i64 op) (.slice L ln lc) (.int .i64 port) (.int .i64 backup) (.slice R rn rc) (.bool pipe) → Calls Try.prog 36 #[.slice R rn rc] W fun e w' =>
      ∃ A c, e = .returned (.slice A rn c) ∧ (Boxed w w' w.heap.size (.int .i64 op) (.slice L ln lc) (.int .i64 port) (.int .i64 backup) (.slice R rn rc) (.bool pipe) ∧ w'.cell? ⟨w.heap.size, 1, none⟩ = some (.slice L ln lc) ∧ w'.cell? ⟨w.heap.size, 4, none⟩ = some (.slice R rn rc) ∧ w'.frozen? ⟨w.heap.size, 1, none⟩ = false ∧ w'.frozen? ⟨w.heap.size, 4, none⟩ = false) ∧
        w'.ownsRow (w.heap.size + 2) 3 1 (.slice A rn c) rn (flatE int1 rl) ∧ Below W.heap.size W w' := fun W hW =>
    (clone_any R rn rc rl W (hr.below hW.below) hrn).mono fun e w' ⟨v, he, ho, hb⟩ => by
      obtain ⟨A, c, rfl, -, -⟩ := Rd.of_own int1_len (by decide) ho
      exact ⟨A, c, he, ⟨hW.next hb, (hW.next hb).c⟩, own_mono ho (by have := (Array.getElem?_eq_some_iff.1 hW.two).1; omega), hb⟩
  have SL := Lib.hid HL
  have SR := Lib.hid HR
  clear HL HR hl hr
  go_enter Try.func30, Try.ntmps30
  go_wp2_with fail
  obtain ⟨W0, hW0⟩ : ∃ W0, W0 = (w.alloc (.cells #[.int .i64 op, .slice L ln lc, .int .i64 port, .int .i64 backup, .slice R rn rc, .bool pipe] 35)).alloc (.cells #[.int .i64 0, .slice none 0 0, .int .i64 0, .int .i64 0, .slice none 0 0, .bool false] 35) := ⟨_, rfl⟩
  rw [← hW0]
  have hbx : Boxed w W0 w.heap.size (.int .i64 op) (.slice L ln lc) (.int .i64 port) (.int .i64 backup) (.slice R rn rc) (.bool pipe) := by
    rw [hW0]
    exact ⟨by go_grown, heap_alloc2_old _ _ _, heap_alloc2_new _ _ _⟩
  clear hW0
  obtain ⟨hc1, hc4, hf1, hf4⟩ := hbx.c
  go_region_with (first | (go_at_call 36; (with_reducible refine (SL.out _ ?_).mono ?_); (first | assumption | exact hbx.next (Below.refl _ _).drew | exact Boxed.next (by assumption) (Below.refl _ _).drew); rintro e w5 ⟨A5, c5, rfl, ⟨hbx5, hd5, hf5, hg5, hh5⟩, hown5, hb5⟩) | (go_at_call 36; (with_reducible refine (SR.out _ ?_).mono ?_); (first | assumption | exact hbx.next (Below.refl _ _).drew | exact Boxed.next (by assumption) (Below.refl _ _).drew); rintro e w5 ⟨A5, c5, rfl, ⟨hbx5, hd5, hf5, hg5, hh5⟩, hown5, hb5⟩))
  all_goals
    rename_i w4 A4 c4 hbx4 hd4 hf4 hg4 hh4 hown4 hb4
    obtain ⟨q0, q2, q3, q5, r0, r1, r2, r3, r4, r5, s0, s1, s2, s3, s4, s5⟩ := hbx5.six
    go_wp2
  all_goals
    refine bodyPost_ret (by simp [results, Try.results30, go_sem, r0, r1, r2, r3, r4, r5]; try rfl) rfl ?_
    refine ⟨_, _, rfl, own_mono (base := w.heap.size + 2) ?_ (by omega), own_mono (base := w.heap.size + 2) ?_ (by omega), ?_⟩
    · refine ownsRow_setCell_below (ownsRow_setCell_below (ownsRow_setCell_below (ownsRow_setCell_below (ownsRow_setCell_below (ownsRow_setCell_below (ownsRow_setCell_below (ownsRow_setCell_below ?_ (by simp) _) (by simp) _) (by simp) _) (by simp) _) (by simp) _) (by simp) _) (by simp) _) (by simp) _
      first | exact hown5 | exact own_below hown4 hb5
    · refine ownsRow_setCell_below (ownsRow_setCell_below (ownsRow_setCell_below (ownsRow_setCell_below (ownsRow_setCell_below (ownsRow_setCell_below (ownsRow_setCell_below (ownsRow_setCell_below ?_ (by simp) _) (by simp) _) (by simp) _) (by simp) _) (by simp) _) (by simp) _) (by simp) _) (by simp) _
      first | exact hown5 | exact own_below hown4 hb5
    · exact (((((((hbx5.below.setCell (by simp) _).setCell (by simp) _).setCell (by simp) _).setCell (by simp) _).setCell (by simp) _).setCell (by simp) _).setCell (by simp) _).setCell (by simp) _

end Go.Proofs.Ytifadjakpllpfaa
