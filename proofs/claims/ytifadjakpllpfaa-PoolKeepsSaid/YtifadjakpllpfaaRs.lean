/-
  The reference's pool: Sum, ints, SameHop.
-/
import Derived.Test.YtifadjakpllpfaaAt
import Derived.Deep.CutRange
namespace Go.Proofs.Ytifadjakpllpfaa
open Go.RowKit

/-- the sum of numbers; none: one of them is no number -/
def sumX (f : Int → XV) : Int → List Int → Option Int
  | acc, [] => some acc
  | acc, id :: r => if (f id).kind = 1 then sumX f (wrap64 (acc + (f id).int)) r else none
theorem sumX_snoc (f : Int → XV) (l : List Int) : ∀ (acc : Int) (id : Int), sumX f acc (l ++ [id]) = (sumX f acc l).bind fun s => if (f id).kind = 1 then some (wrap64 (s + (f id).int)) else none := by
  induction l with
  | nil => intro acc id; simp [sumX]
  | cons x l ih =>
    intro acc id
    simp only [List.cons_append, sumX]
    split
    · exact ih _ _
    · rfl
theorem sumX_none (f : Int → XV) (l m : List Int) : ∀ (acc : Int), sumX f acc l = none → sumX f acc (l ++ m) = none := by
  induction l with
  | nil => intro acc h; simp [sumX] at h
  | cons x l ih =>
    intro acc h
    simp only [List.cons_append, sumX] at h ⊢
    split
    · rename_i hx; rw [if_pos hx] at h; exact ih _ h
    · rfl

theorem set_ten {B : Nat} {a w : World} {g : Nat} {x0 x1 v0 v1 v2 v3 v4 v5 v6 v7 v8 v9 : Value} (h : Below B a w) (hg : B ≤ g) (c0 : w.cell? ⟨g, 0, none⟩ = some x0) (c1 : w.cell? ⟨g, 1, none⟩ = some x1) :
    ((((((((((w.setCell ⟨g, 0, none⟩ v0).setCell ⟨g, 1, none⟩ v1).setCell ⟨g, 2, none⟩ v2).setCell ⟨g, 3, none⟩ v3).setCell ⟨g, 4, none⟩ v4).setCell ⟨g, 5, none⟩ v5).setCell ⟨g, 6, none⟩ v6).setCell ⟨g, 7, none⟩ v7).setCell ⟨g, 8, none⟩ v8).setCell ⟨g, 9, none⟩ v9).cell? ⟨g, 0, none⟩ = some v0 ∧
    ((((((((((w.setCell ⟨g, 0, none⟩ v0).setCell ⟨g, 1, none⟩ v1).setCell ⟨g, 2, none⟩ v2).setCell ⟨g, 3, none⟩ v3).setCell ⟨g, 4, none⟩ v4).setCell ⟨g, 5, none⟩ v5).setCell ⟨g, 6, none⟩ v6).setCell ⟨g, 7, none⟩ v7).setCell ⟨g, 8, none⟩ v8).setCell ⟨g, 9, none⟩ v9).cell? ⟨g, 1, none⟩ = some v1 ∧
    Below B a ((((((((((w.setCell ⟨g, 0, none⟩ v0).setCell ⟨g, 1, none⟩ v1).setCell ⟨g, 2, none⟩ v2).setCell ⟨g, 3, none⟩ v3).setCell ⟨g, 4, none⟩ v4).setCell ⟨g, 5, none⟩ v5).setCell ⟨g, 6, none⟩ v6).setCell ⟨g, 7, none⟩ v7).setCell ⟨g, 8, none⟩ v8).setCell ⟨g, 9, none⟩ v9) :=
  ⟨by simp [go_sem, c0], by simp [go_sem, c1], (((((((((h.setCell (p := ⟨g, 0, none⟩) hg v0).setCell (p := ⟨g, 1, none⟩) hg v1).setCell (p := ⟨g, 2, none⟩) hg v2).setCell (p := ⟨g, 3, none⟩) hg v3).setCell (p := ⟨g, 4, none⟩) hg v4).setCell (p := ⟨g, 5, none⟩) hg v5).setCell (p := ⟨g, 6, none⟩) hg v6).setCell (p := ⟨g, 7, none⟩) hg v7).setCell (p := ⟨g, 8, none⟩) hg v8).setCell (p := ⟨g, 9, none⟩) hg v9⟩
theorem new_two {B : Nat} {a w : World} {t : TypeId} {v0 v1 v2 v3 v4 v5 v6 v7 v8 v9 : Value} (h : Below B a w) (hB : B ≤ a.heap.size) :
    (w.alloc (.cells #[v0, v1, v2, v3, v4, v5, v6, v7, v8, v9] t)).cell? ⟨w.heap.size, 0, none⟩ = some v0 ∧ (w.alloc (.cells #[v0, v1, v2, v3, v4, v5, v6, v7, v8, v9] t)).cell? ⟨w.heap.size, 1, none⟩ = some v1 ∧ Below B a (w.alloc (.cells #[v0, v1, v2, v3, v4, v5, v6, v7, v8, v9] t)) :=
  ⟨by simp, by simp, h.alloc (Nat.le_trans hB h.size) _⟩

set_option maxHeartbeats 2000000 in
theorem rsum_any (b : Bool) (room : Int) (A : Option Addr) (n c : Nat) (xs : List XV) (w : World) (hr : Rd xv 10 w A n xs) (hn : n ≤ 1000) (A2 : Option Addr) (n2 c2 : Nat) (ids : List Int) (hi : Rd int1 1 w A2 n2 ids) (hn2 : n2 ≤ 1000000) :
    Calls Try.prog 18 #[.agg #[.bool b, .int .i64 room, .slice A n c], .slice A2 n2 c2] w fun e w' =>
      e = .returned (.tuple #[.int .i64 ((sumX (xget xs) 0 ids).getD 0), .bool (sumX (xget xs) 0 ids).isSome]) ∧ Below w.heap.size w w' := by
  have HG : Hid (∀ W id, Below w.heap.size w W → Calls Try.prog 11 #[.agg #[.bool b, .int .i64 room, .slice A n c], .int .i64 id] W fun e w' => e = .returned (.agg (xv (xget xs id)).toArray) ∧ Below W.heap.size W w') := fun W id hW =>
    rget_any b room A n c xs id W (hr.below hW) hn
  have HI := Lib.hid hi
  have hlen := hi.1
  clear hr hi
  generalize xget xs = f at *
  have hfin : ids.take n2 = ids := List.take_of_length_le (by omega)
  go_enter Try.func18, Try.ntmps18
  go_wp2
  go_loopw [6, 7] (fun s u W => ∃ (k : Nat) (acc : Int), k ≤ n2 ∧ s = .int .i64 acc ∧ u = .int .i64 k ∧ sumX f 0 (ids.take k) = some acc ∧ Below w.heap.size w W ∧ W.heap[w.heap.size]? = some (.cells #[.bool b, .int .i64 room, .slice A n c] 30 (0, 0))) (fun _ u _ => n2 - (intOf u).toNat)
  case atStart => exact ⟨0, 0, Nat.zero_le _, rfl, rfl, rfl, by go_grown, heap_alloc_new _ _⟩
  case round =>
    obtain ⟨k, acc, hk, rfl, rfl, hacc, hb, hbx⟩ := hrel
    obtain ⟨p0, p1, p2, -⟩ := three_box hbx
    by_cases hlt : k < n2
    · obtain ⟨id, ib, off, hx, hA, hcs⟩ := (HI.out.below hb).at_ hlt
      subst hA
      have hc0 : wr.cell? ⟨ib, off + k, none⟩ = some (.int .i64 id) := by have := hcs 0 _ rfl; simpa using this
      have hsn : sumX f 0 (ids.take (k + 1)) = (if (f id).kind = 1 then some (wrap64 (acc + (f id).int)) else none) := by
        rw [take_snoc hx, sumX_snoc, hacc]; rfl
      have HSN := Lib.hid hsn
      have HBX := Lib.hid hbx
      have HB := Lib.hid hb
      have hkn : (k : Int) < n2 := by omega
      have hk0 : (0 : Int) ≤ k := by omega
      have hwl := hb.size
      have hw0 : w.heap.size < wr.heap.size := (Array.getElem?_eq_some_iff.1 hbx).1
      have hib : ib < wr.heap.size := World.block_lt_of_cell? wr _ hc0
      have HVI : Hid (∀ W, Below wr.heap.size wr W → Calls Try.prog 11 #[.agg #[.bool b, .int .i64 room, .slice A n c], .int .i64 id] W fun e w' => e = .returned (.agg (xv (f id)).toArray) ∧ Below W.heap.size W w') := fun W hW => HG.out W id (hb.trans (hW.mono hwl))
      clear hcs hx hsn hbx hacc hb
      generalize f id = F at *
      obtain ⟨kind, int, text, op, L, ln, lc, port, backup, R, rn, rc, pipe, uses⟩ := F
      have HVX : Hid (∀ W, Below wr.heap.size wr W → Calls Try.prog 11 #[.agg #[.bool b, .int .i64 room, .slice A n c], .int .i64 id] W fun e w' => e = .returned (.agg #[.int .i64 kind, .int .i64 int, .string text, .int .i64 op, .slice L ln lc, .int .i64 port, .int .i64 backup, .slice R rn rc, .bool pipe, .int .i64 uses]) ∧ Below W.heap.size W w') := HVI
      clear HVI
      go_wp2_with fail
      go_cut [8] from 9 to 27 (fun q wx => ∃ g : Nat, q = .pointer (some ⟨g, 0, none⟩) ∧ wx.cell? ⟨g, 0, none⟩ = some (.int .i64 kind) ∧ wx.cell? ⟨g, 1, none⟩ = some (.int .i64 int) ∧ Below wr.heap.size wr wx)
      case first =>
        go_region_with (first | (go_at_call 11; (with_reducible refine (HVX.out _ ?_).mono ?_); (first | assumption | exact (Below.refl _ _).drew | exact (Below.refl _ _).drew.alloc (Nat.le_refl _) _); rintro e w6 ⟨rfl, hb6⟩; have hq6 : Below wr.heap.size wr w6 := (by first | exact below_step (Below.refl _ _).drew hb6 | exact below_step ((Below.refl _ _).drew.alloc (Nat.le_refl _) _) hb6 | exact below_step ((Below.refl _ _).alloc (Nat.le_refl _) _).drew hb6); (first | (have hz : w6.heap[wr.heap.size]? = some (.cells (xv XV.zero).toArray 37 (0, 0)) := (hb6.block _ (by simp)).trans (by exact heap_alloc_new wr _); obtain ⟨z0, z1, z2, z3, z4, z5, z6, z7, z8, z9⟩ := ten_box hz; have y0 := frozen_of_row w6 wr.heap.size 0 _ _ hz; have y1 := frozen_of_row w6 wr.heap.size 1 _ _ hz; have y2 := frozen_of_row w6 wr.heap.size 2 _ _ hz; have y3 := frozen_of_row w6 wr.heap.size 3 _ _ hz; have y4 := frozen_of_row w6 wr.heap.size 4 _ _ hz; have y5 := frozen_of_row w6 wr.heap.size 5 _ _ hz; have y6 := frozen_of_row w6 wr.heap.size 6 _ _ hz; have y7 := frozen_of_row w6 wr.heap.size 7 _ _ hz; have y8 := frozen_of_row w6 wr.heap.size 8 _ _ hz; have y9 := frozen_of_row w6 wr.heap.size 9 _ _ hz) | skip)))
        all_goals
          go_wp2_with fail
          go_meet
          first
          | with_reducible exact ⟨_, rfl, new_two hq6 (Nat.le_refl _)⟩
          | with_reducible exact ⟨_, rfl, set_ten hq6 (Nat.le_refl _) z0 z1⟩
      case rest =>
        obtain ⟨g, rfl, q0, q1, hq6⟩ := hcut
        have KY := Lib.hid (HB.out.trans (hq6.mono hwl))
        have KZ := Lib.hid ((hq6.block _ hw0).trans HBX.out)
        clear hq6
        by_cases hk1 : kind = 1
        · subst hk1
          have HS1 := Lib.hid (HSN.out.trans (if_pos rfl))
          clear HSN
          go_wp2
          go_roundw
          case rel => exact ⟨k + 1, _, by omega, rfl, by go_num, HS1.out, KY.out, KZ.out⟩
          case measure => simp [intOf]; omega
        · have hn1 : (kind != 1) = true := by simpa using hk1
          have hnone : sumX f 0 ids = none := by
            rw [← List.take_append_drop (k + 1) ids]
            exact sumX_none _ _ _ _ (HSN.out.trans (if_neg hk1))
          clear HSN
          go_wp2
          go_ret2
          exact ⟨by rw [hnone]; rfl, KY.out⟩
    · have hkn : n2 = k := by omega
      subst hkn
      have hsome : sumX f 0 ids = some acc := by rw [← hfin]; exact hacc
      clear hacc hfin
      go_wp2
      go_ret2
      exact ⟨by rw [hsome]; rfl, hb⟩

end Go.Proofs.Ytifadjakpllpfaa
