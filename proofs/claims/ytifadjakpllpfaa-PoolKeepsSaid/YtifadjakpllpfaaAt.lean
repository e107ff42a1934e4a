/-
  The reference's pool: at.
-/
import Derived.Test.YtifadjakpllpfaaXv
import Derived.Test.YtifadjakpllpfaaMid
namespace Go.Proofs.Ytifadjakpllpfaa
open Go.RowKit

theorem info_x : (Try.prog.info? 37).map (fun i => (i.zero, i.size, i.bytes)) = some (some (.agg (xv XV.zero).toArray), 10, 120) := by kernel_rfl

theorem xv_one1 (x : XV) : ∀ u ∈ xv x, u.oneCell' = true := by have := xv_one [x]; rwa [flatE_one] at this

/-- the box of a pool: three cells -/
theorem three_box {w : World} {h : Nat} {a b c : Value} (k : w.heap[h]? = some (.cells #[a, b, c] 30 (0, 0))) :
    w.cell? ⟨h, 0, none⟩ = some a ∧ w.cell? ⟨h, 1, none⟩ = some b ∧ w.cell? ⟨h, 2, none⟩ = some c ∧
      w.frozen? ⟨h, 0, none⟩ = false ∧ w.frozen? ⟨h, 1, none⟩ = false ∧ w.frozen? ⟨h, 2, none⟩ = false := by
  refine ⟨?_, ?_, ?_, frozen_of_row w _ _ _ _ k, frozen_of_row w _ _ _ _ k, frozen_of_row w _ _ _ _ k⟩
  · rw [cell_of_row w h _ _ _ (0, 0) k]; rfl
  · rw [cell_of_row w h _ _ _ (0, 0) k]; rfl
  · rw [cell_of_row w h _ _ _ (0, 0) k]; rfl
/-- the box of a thing: ten cells -/
theorem ten_box {w : World} {h : Nat} {t : TypeId} {a0 a1 a2 a3 a4 a5 a6 a7 a8 a9 : Value} (k : w.heap[h]? = some (.cells #[a0, a1, a2, a3, a4, a5, a6, a7, a8, a9] t (0, 0))) :
    w.cell? ⟨h, 0, none⟩ = some a0 ∧ w.cell? ⟨h, 1, none⟩ = some a1 ∧ w.cell? ⟨h, 2, none⟩ = some a2 ∧ w.cell? ⟨h, 3, none⟩ = some a3 ∧ w.cell? ⟨h, 4, none⟩ = some a4 ∧
      w.cell? ⟨h, 5, none⟩ = some a5 ∧ w.cell? ⟨h, 6, none⟩ = some a6 ∧ w.cell? ⟨h, 7, none⟩ = some a7 ∧ w.cell? ⟨h, 8, none⟩ = some a8 ∧ w.cell? ⟨h, 9, none⟩ = some a9 := by
  refine ⟨?_, ?_, ?_, ?_, ?_, ?_, ?_, ?_, ?_, ?_⟩ <;> (rw [cell_of_row w h _ _ _ (0, 0) k]; rfl)

/-- the boxes of at: h the pool, h + 1 the thing, h + 2 the answer -/
structure AtBox (w w' : World) (h : Nat) (b : Bool) (room : Int) (v : Value) (cs : List Value) : Prop where
  below : Below w.heap.size w w'
  one : w'.heap[h]? = some (.cells #[.bool b, .int .i64 room, v] 30 (0, 0))
  two : w'.heap[h + 1]? = some (.cells cs.toArray 37 (0, 0))
  three : w'.heap[h + 1 + 1]? = some (.cells #[.bool false, .int .i64 0, .slice none 0 0] 30 (0, 0))
theorem AtBox.next {w w' w2 : World} {h : Nat} {b : Bool} {room : Int} {v : Value} {cs : List Value} (k : AtBox w w' h b room v cs) (hb : Below w'.heap.size w' w2) : AtBox w w2 h b room v cs :=
  ⟨below_step k.below hb, (hb.block _ (Array.getElem?_eq_some_iff.1 k.one).1).trans k.one, (hb.block _ (Array.getElem?_eq_some_iff.1 k.two).1).trans k.two, (hb.block _ (Array.getElem?_eq_some_iff.1 k.three).1).trans k.three⟩

theorem AtBox.grown {w w' w2 : World} {h : Nat} {b : Bool} {room : Int} {v : Value} {cs : List Value} {o : Option Nat} (k : AtBox w w' h b room v cs) (hh : h = w.heap.size) (hg : w'.grownBy w2 o) (ho : ∀ g, o = some g → h + 3 ≤ g) : AtBox w w2 h b room v cs := by
  subst hh
  have hs := k.below.size
  refine ⟨k.below.grown hg hs (fun g e => by have := ho g e; omega), ?_, ?_, ?_⟩
  · rw [hg.block _ (Array.getElem?_eq_some_iff.1 k.one).1 (fun e => by have := ho _ e.symm; omega)]; exact k.one
  · rw [hg.block _ (Array.getElem?_eq_some_iff.1 k.two).1 (fun e => by have := ho _ e.symm; omega)]; exact k.two
  · rw [hg.block _ (Array.getElem?_eq_some_iff.1 k.three).1 (fun e => by have := ho _ e.symm; omega)]; exact k.three
theorem AtBox.start (w : World) (b : Bool) (room : Int) (v : Value) (cs : List Value) :
    AtBox w (((w.alloc (.cells #[.bool b, .int .i64 room, v] 30)).alloc (.cells cs.toArray 37)).alloc (.cells #[.bool false, .int .i64 0, .slice none 0 0] 30)) w.heap.size b room v cs := by
  have h1 := heap_alloc2_old w (.cells #[.bool b, .int .i64 room, v] 30) (.cells cs.toArray 37)
  have h2 := heap_alloc2_new w (.cells #[.bool b, .int .i64 room, v] 30) (.cells cs.toArray 37)
  refine ⟨by go_grown, ?_, ?_, ?_⟩
  · rw [heap_alloc_old _ _ (Array.getElem?_eq_some_iff.1 h1).1]; exact h1
  · rw [heap_alloc_old _ _ (Array.getElem?_eq_some_iff.1 h2).1]; exact h2
  · have h3 := heap_alloc_new ((w.alloc (.cells #[.bool b, .int .i64 room, v] 30)).alloc (.cells cs.toArray 37)) (.cells #[.bool false, .int .i64 0, .slice none 0 0] 30)
    simpa using h3

theorem heap_drew_at {w : World} {o : Obj} {k : Nat} (hk : k = w.heap.size) : (w.alloc o).drew.heap[k]? = some o := by subst hk; exact heap_alloc_new w o

theorem new_ten {x : XV} {cs : List Value} (h : xv x = cs) (w : World) : ∀ j u, (flatE xv [x])[j]? = some u → (w.alloc (.cells cs.toArray 37)).cell? ((⟨w.heap.size, 0, none⟩ : Addr).add j) = some u := by
  subst h
  have := new_cells w (flatE xv [x]) 37
  rwa [flatE_one] at this ⊢

set_option maxHeartbeats 2000000 in
theorem at_new (b : Bool) (room : Int) (A : Option Addr) (n c : Nat) (xs : List XV) (x : XV) (w : World) (hr : Rd xv 10 w A n xs) (hn : n ≤ 1000) :
    Calls Try.prog 35 #[.agg #[.bool b, .int .i64 room, .slice A n c], .int .i64 n, .agg (xv x).toArray] w fun e w' =>
      ∃ v, e = .returned (.agg #[.bool b, .int .i64 room, v]) ∧ w'.ownsRow w.heap.size 37 10 v (n + 1) (flatE xv (xs ++ [x])) ∧ Below w.heap.size w w' := by
  obtain ⟨i0, hi, hz0, hz1, hz2⟩ := info_parts info_x
  have HI := Lib.hid hi; have HZ0 := Lib.hid hz0; have HZ1 := Lib.hid hz1; have HZ2 := Lib.hid hz2
  have HR := Lib.hid hr
  clear hi hz0 hz1 hz2 hr
  cases A with
  | none =>
    obtain ⟨rfl, rfl⟩ := HR.out.nil_of
    obtain ⟨kind, int, text, op, L, ln, lc, port, backup, R, rn, rc, pipe, uses⟩ := x
    refine (show Calls Try.prog 35 #[.agg #[.bool b, .int .i64 room, .slice none 0 c], .int .i64 0, .agg #[.int .i64 kind, .int .i64 int, .string text, .int .i64 op, .slice L ln lc, .int .i64 port, .int .i64 backup, .slice R rn rc, .bool pipe, .int .i64 uses]] w _ from ?_)
    go_enter Try.func35, Try.ntmps35
    go_wp2
    have hc1 := grownCap_ge w 1 0 37
    have hc2 := grownCap_le_maxLen w 1 0 37 (by decide)
    unfold grownCap at hc1 hc2
    generalize (Question.appendCap 1 0 37).cut (w.tape w.drawn (Question.appendCap 1 0 37)) = cap at *
    refine bodyPost_ret (by simp [results, Try.results35, go_sem]; try rfl) rfl ?_
    refine ⟨_, rfl, ?_, by go_grown⟩
    refine own_grown (cs := #[.int .i64 kind, .int .i64 int, .string text, .int .i64 op, .slice L ln lc, .int .i64 port, .int .i64 backup, .slice R rn rc, .bool pipe, .int .i64 uses]) (heap_drew_at (by simp)) (by omega) hc1 hc2 rfl rfl
  | some a =>
    have HC : Hid (∀ X Y Z j u, (flatE xv xs)[j]? = some u → (((w.alloc X).alloc Y).alloc Z).cell? (a.add j) = some u) := by
      refine Lib.hid fun X Y Z j u h => ?_
      have hc : w.cell? (a.add j) = some u := by
        cases xs with
        | nil => simp [flatE] at h
        | cons y ys =>
          obtain ⟨b, off, hA, -⟩ := HR.out.2 0 y rfl
          cases hA
          exact HR.out.cells xv_len (by decide) j u h
      have hb : Below w.heap.size w (((w.alloc X).alloc Y).alloc Z) := by go_grown
      exact (hb.cell (World.block_lt_of_cell? w _ hc)).trans hc
    have HL := Lib.hid (show (flatE xv xs).length = n * 10 by rw [flatE_length xv_len, HR.out.1])
    obtain ⟨kind, int, text, op, L, ln, lc, port, backup, R, rn, rc, pipe, uses⟩ := x
    have KS := Lib.hid (AtBox.start w b room (.slice (some a) n c) [.int .i64 kind, .int .i64 int, .string text, .int .i64 op, .slice L ln lc, .int .i64 port, .int .i64 backup, .slice R rn rc, .bool pipe, .int .i64 uses])
    refine (show Calls Try.prog 35 #[.agg #[.bool b, .int .i64 room, .slice (some a) n c], .int .i64 n, .agg #[.int .i64 kind, .int .i64 int, .string text, .int .i64 op, .slice L ln lc, .int .i64 port, .int .i64 backup, .slice R rn rc, .bool pipe, .int .i64 uses]] w _ from ?_)
    go_enter Try.func35, Try.ntmps35
    go_wp2_with
      (at_builtin
       first
       | (refine wpList_append_own _ rfl _ _ 28 rfl (w.heap.size + 3) 37 i0 (.agg (xv XV.zero).toArray) 10 120 Try.underlying28 HI.out HZ0.out HZ1.out HZ2.out rfl (by decide) _ 0 _ rfl
            (World.ownsRow_nil _ _ _ _) a n c (flatE xv xs) rfl HL.out (HC.out _ _ _) (xv_one _) (by simp [maxLen]; omega) (by omega) (by simp) ?_
          intro v1 w1 hown1 hgrow1 _
          have kb := AtBox.grown KS.out rfl hgrow1 (fun g e => nomatch (show none = some g from e))
          obtain ⟨c0, c1, c2, f0, f1, f2⟩ := three_box kb.one
          obtain ⟨d0, d1, d2, e0, e1, e2⟩ := three_box kb.three
          obtain ⟨g0, g1, g2, g3, g4, g5, g6, g7, g8, g9⟩ := ten_box kb.two
          obtain ⟨A1, k1, rfl, -, -⟩ := Rd.of_own xv_len (by decide) (show w1.ownsRow (w.heap.size + 3) 37 10 v1 (0 + n) (flatE xv xs) from hown1)
          have KB := Lib.hid kb
          have HO1 := Lib.hid (show w1.ownsRow (w.heap.size + 3) 37 10 (.slice A1 n k1) n (flatE xv xs) by rw [Nat.zero_add] at hown1; exact hown1)
          have HS := Lib.hid kb.below.size
          clear kb hown1 hgrow1)
       | (refine wpList_append_own _ rfl _ _ 28 rfl (w.heap.size + 3) 37 i0 (.agg (xv XV.zero).toArray) 10 120 Try.underlying28 HI.out HZ0.out HZ1.out HZ2.out rfl (by decide) (.slice A1 n k1) n (flatE xv xs) rfl (HO1.out.alloc _) ⟨w1.heap.size, 0, none⟩ 1 1 (flatE xv [⟨kind, int, text, op, L, ln, lc, port, backup, R, rn, rc, pipe, uses⟩]) rfl rfl (new_cells w1 (flatE xv [⟨kind, int, text, op, L, ln, lc, port, backup, R, rn, rc, pipe, uses⟩]) 37) (xv_one _) (by simp [maxLen]; omega) (by omega) ?_ ?_
          · have := (Array.getElem?_eq_some_iff.1 KB.out.three).1
            simp
            omega
          intro v2 w2 hown2 hgrow2 _
          have kb2 := AtBox.grown (AtBox.next KB.out ((Below.refl _ _).alloc (Nat.le_refl _) _)) rfl hgrow2 (fun g e => (HO1.out.lt g e).1)
          obtain ⟨c0, c1, c2, f0, f1, f2⟩ := three_box kb2.one
          obtain ⟨d0, d1, d2, e0, e1, e2⟩ := three_box kb2.three
          have hown3 := (show w2.ownsRow (w.heap.size + 3) 37 10 v2 (n + 1) (flatE xv (xs ++ [⟨kind, int, text, op, L, ln, lc, port, backup, R, rn, rc, pipe, uses⟩])) by rw [flatE_append]; exact hown2)
          obtain ⟨A2, k2, rfl, -, -⟩ := Rd.of_own xv_len (by decide) hown3
          have KB2 := Lib.hid kb2
          have HO2 := Lib.hid hown3
          clear kb2 hown2 hown3 hgrow2))
    refine bodyPost_ret (by simp [results, Try.results35, go_sem, d0, d1, d2]; try rfl) rfl ?_
    refine ⟨_, rfl, own_mono (ownsRow_setCell_below (ownsRow_setCell_below (ownsRow_setCell_below (ownsRow_setCell_below HO2.out ?_ _) ?_ _) ?_ _) ?_ _) (by omega), (((KB2.out.below.setCell ?_ _).setCell ?_ _).setCell ?_ _).setCell ?_ _⟩
    all_goals first | (simp; done) | (simp; omega)

set_option maxHeartbeats 2000000 in
theorem at_set (b : Bool) (room : Int) (A : Option Addr) (n c i : Nat) (xs : List XV) (x : XV) (w : World) (hr : Rd xv 10 w A n xs) (hn : n ≤ 1000) (hin : i < n) :
    Calls Try.prog 35 #[.agg #[.bool b, .int .i64 room, .slice A n c], .int .i64 i, .agg (xv x).toArray] w fun e w' =>
      ∃ v, e = .returned (.agg #[.bool b, .int .i64 room, v]) ∧ w'.ownsRow w.heap.size 37 10 v n (flatE xv (xs.set i x)) ∧ Below w.heap.size w w' := by
  obtain ⟨i0, hi, hz0, hz1, hz2⟩ := info_parts info_x
  have HSZ := Lib.hid (show (Try.prog.info? 37).map (·.size) = some 10 by rw [hi]; exact congrArg some hz1)
  have HI := Lib.hid hi; have HZ0 := Lib.hid hz0; have HZ1 := Lib.hid hz1; have HZ2 := Lib.hid hz2
  have HR := Lib.hid hr
  clear hi hz0 hz1 hz2 hr
  cases A with
  | none =>
    obtain ⟨rfl, rfl⟩ := HR.out.nil_of
    omega
  | some a =>
    have HC : Hid (∀ X Y Z j u, (flatE xv xs)[j]? = some u → (((w.alloc X).alloc Y).alloc Z).cell? (a.add j) = some u) := by
      refine Lib.hid fun X Y Z j u h => ?_
      have hc : w.cell? (a.add j) = some u := by
        cases xs with
        | nil => simp [flatE] at h
        | cons y ys =>
          obtain ⟨b, off, hA, -⟩ := HR.out.2 0 y rfl
          cases hA
          exact HR.out.cells xv_len (by decide) j u h
      have hb : Below w.heap.size w (((w.alloc X).alloc Y).alloc Z) := by go_grown
      exact (hb.cell (World.block_lt_of_cell? w _ hc)).trans hc
    have HL := Lib.hid (show (flatE xv xs).length = n * 10 by rw [flatE_length xv_len, HR.out.1])
    obtain ⟨kind, int, text, op, L, ln, lc, port, backup, R, rn, rc, pipe, uses⟩ := x
    have KS := Lib.hid (AtBox.start w b room (.slice (some a) n c) [.int .i64 kind, .int .i64 int, .string text, .int .i64 op, .slice L ln lc, .int .i64 port, .int .i64 backup, .slice R rn rc, .bool pipe, .int .i64 uses])
    refine (show Calls Try.prog 35 #[.agg #[.bool b, .int .i64 room, .slice (some a) n c], .int .i64 i, .agg #[.int .i64 kind, .int .i64 int, .string text, .int .i64 op, .slice L ln lc, .int .i64 port, .int .i64 backup, .slice R rn rc, .bool pipe, .int .i64 uses]] w _ from ?_)
    have HIL := Lib.hid (show i < xs.length by rw [HR.out.1]; exact hin)
    have hi0 : ¬ (i : Int) < 0 := by omega
    have hi1 : ¬ n ≤ i := by omega
    have hi2 : ((i : Int) == (n : Int)) = false := by simp; omega
    go_enter Try.func35, Try.ntmps35
    go_wp2_with
      (first
       | (at_builtin
          refine wpList_append_own _ rfl _ _ 28 rfl (w.heap.size + 3) 37 i0 (.agg (xv XV.zero).toArray) 10 120 Try.underlying28 HI.out HZ0.out HZ1.out HZ2.out rfl (by decide) _ 0 _ rfl
            (World.ownsRow_nil _ _ _ _) a n c (flatE xv xs) rfl HL.out (HC.out _ _ _) (xv_one _) (by simp [maxLen]; omega) (by omega) (by simp) ?_
          intro v1 w1 hown1 hgrow1 _
          have kb := AtBox.grown KS.out rfl hgrow1 (fun g e => nomatch (show none = some g from e))
          obtain ⟨c0, c1, c2, f0, f1, f2⟩ := three_box kb.one
          obtain ⟨d0, d1, d2, e0, e1, e2⟩ := three_box kb.three
          obtain ⟨g0, g1, g2, g3, g4, g5, g6, g7, g8, g9⟩ := ten_box kb.two
          have hown1' := (show w1.ownsRow (w.heap.size + 3) 37 10 v1 n (flatE xv xs) by rw [Nat.zero_add] at hown1; exact hown1)
          obtain ⟨-, rfl⟩ | ⟨g, k1, rfl, hg3, -, -, -⟩ := own_form hown1'
          · omega
          have KB := Lib.hid kb
          have HO1 := Lib.hid hown1'
          have HS := Lib.hid kb.below.size
          clear kb hown1 hown1' hgrow1)
       | (refine wpList_store_elem xv_len xv_one1 rfl 37 _ _ rfl HSZ.out HO1.out i HIL.out ⟨kind, int, text, op, L, ln, lc, port, backup, R, rn, rc, pipe, uses⟩ rfl rfl ?_
          intro w2 hown2 hgrow2
          have kb2 := AtBox.grown KB.out rfl hgrow2 (fun g' e => by cases e; exact hg3)
          obtain ⟨c0, c1, c2, f0, f1, f2⟩ := three_box kb2.one
          obtain ⟨d0, d1, d2, e0, e1, e2⟩ := three_box kb2.three
          have KB2 := Lib.hid kb2
          have HO2 := Lib.hid hown2
          clear kb2 hown2 hgrow2))
    refine bodyPost_ret (by simp [results, Try.results35, go_sem, d0, d1, d2]; try rfl) rfl ?_
    refine ⟨_, rfl, own_mono (ownsRow_setCell_below (ownsRow_setCell_below (ownsRow_setCell_below (ownsRow_setCell_below HO2.out ?_ _) ?_ _) ?_ _) ?_ _) (by omega), (((KB2.out.below.setCell ?_ _).setCell ?_ _).setCell ?_ _).setCell ?_ _⟩
    all_goals first | (simp; done) | (simp; omega)

end Go.Proofs.Ytifadjakpllpfaa
