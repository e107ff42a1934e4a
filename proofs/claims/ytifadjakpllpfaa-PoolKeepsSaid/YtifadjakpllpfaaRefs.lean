/-
  The reference's pool: Ref, Unref.
-/
import Derived.Test.YtifadjakpllpfaaRef
namespace Go.Proofs.Ytifadjakpllpfaa
open Go.RowKit

/-- two boxes: the pool, and the answer -/
structure TwoBox (w w' : World) (h : Nat) (b : Bool) (room : Int) (v : Value) : Prop where
  below : Below w.heap.size w w'
  one : w'.heap[h]? = some (.cells #[.bool b, .int .i64 room, v] 30 (0, 0))
  two : w'.heap[h + 1]? = some (.cells #[.bool false, .int .i64 0, .slice none 0 0] 30 (0, 0))
theorem TwoBox.next {w w' w2 : World} {h : Nat} {b : Bool} {room : Int} {v : Value} (k : TwoBox w w' h b room v) (hb : Below w'.heap.size w' w2) : TwoBox w w2 h b room v :=
  ⟨below_step k.below hb, (hb.block _ (Array.getElem?_eq_some_iff.1 k.one).1).trans k.one, (hb.block _ (Array.getElem?_eq_some_iff.1 k.two).1).trans k.two⟩
theorem TwoBox.start (w : World) (b : Bool) (room : Int) (v : Value) :
    TwoBox w ((w.alloc (.cells #[.bool b, .int .i64 room, v] 30)).alloc (.cells #[.bool false, .int .i64 0, .slice none 0 0] 30)) w.heap.size b room v :=
  ⟨by go_grown, heap_alloc2_old _ _ _, heap_alloc2_new _ _ _⟩
theorem TwoBox.lt {w w' : World} {h : Nat} {b : Bool} {room : Int} {v : Value} (k : TwoBox w w' h b room v) : h + 1 < w'.heap.size := (Array.getElem?_eq_some_iff.1 k.two).1

theorem rref_not (room : Int) (A : Option Addr) (n c : Nat) (id : Int) (w : World) :
    Calls Try.prog 27 #[.agg #[.bool false, .int .i64 room, .slice A n c], .int .i64 id] w fun e w' =>
      e = .returned (.tuple #[.agg #[.bool false, .int .i64 room, .slice A n c], .int .i64 1]) ∧ Below w.heap.size w w' := by
  go_enter Try.func27, Try.ntmps27
  go_wp2
  refine bodyPost_ret (by simp [results, Try.results27, go_sem]; try rfl) rfl ?_
  exact ⟨rfl, by go_grown⟩

set_option maxHeartbeats 2000000 in
theorem rref_none (room : Int) (A : Option Addr) (n c : Nat) (xs : List XV) (id : Int) (w : World) (hr : Rd xv 10 w A n xs) (hn : n ≤ 1000) (hx : xget xs id = XV.zero) :
    Calls Try.prog 27 #[.agg #[.bool true, .int .i64 room, .slice A n c], .int .i64 id] w fun e w' =>
      e = .returned (.tuple #[.agg #[.bool true, .int .i64 room, .slice A n c], .int .i64 31]) ∧ Below w.heap.size w w' := by
  have KS := Lib.hid (TwoBox.start w true room (.slice A n c))
  have HG : Hid (∀ W, Below w.heap.size w W → Calls Try.prog 11 #[.agg #[.bool true, .int .i64 room, .slice A n c], .int .i64 id] W fun e w' => e = .returned (.agg #[.int .i64 0, .int .i64 0, .string ByteArray.empty, .int .i64 0, .slice none 0 0, .int .i64 0, .int .i64 0, .slice none 0 0, .bool false, .int .i64 0]) ∧ Below W.heap.size W w') := fun W hW => by
    have := rget_any true room A n c xs id W (hr.below hW) hn
    rwa [hx] at this
  clear hr hx
  go_enter Try.func27, Try.ntmps27
  go_wp2_with fail
  refine (HG.out _ KS.out.below).mono ?_
  rintro e w3 ⟨rfl, hb3⟩
  have hk := KS.out.next hb3
  have hlt := hk.lt
  have hlt0 : w.heap.size < w3.heap.size := by omega
  obtain ⟨c0, c1, c2, -⟩ := three_box hk.one
  obtain ⟨d0, d1, d2, e0, e1, e2⟩ := three_box hk.two
  have HK := Lib.hid hk
  clear hk hb3
  go_wp2
  refine bodyPost_ret (by simp [results, Try.results27, go_sem, hlt, d0, d1, d2]; try rfl) rfl ?_
  refine ⟨rfl, (((HK.out.below.setCell ?_ _).setCell ?_ _).setCell ?_ _).alloc ?_ _⟩
  all_goals first | omega | (simp; done) | (simp; omega)

set_option maxHeartbeats 2000000 in
theorem rref_some (room : Int) (A : Option Addr) (n c : Nat) (xs : List XV) (i : Nat) (kind int : Int) (text : ByteArray) (op : Int) (L : Option Addr) (ln lc : Nat) (port backup : Int) (R : Option Addr) (rn rc : Nat) (pipe : Bool) (uses : Int) (w : World) (hr : Rd xv 10 w A n xs) (hn : n ≤ 1000)
    (hx : xs[i]? = some ⟨kind, int, text, op, L, ln, lc, port, backup, R, rn, rc, pipe, uses⟩) (hu : 0 < uses) (hu2 : uses ≤ 1000) :
    Calls Try.prog 27 #[.agg #[.bool true, .int .i64 room, .slice A n c], .int .i64 i] w fun e w' =>
      ∃ v, e = .returned (.tuple #[.agg #[.bool true, .int .i64 room, v], .int .i64 0]) ∧ w'.ownsRow w.heap.size 37 10 v n (flatE xv (xs.set i ⟨kind, int, text, op, L, ln, lc, port, backup, R, rn, rc, pipe, uses + 1⟩)) ∧ Below w.heap.size w w' := by
  have KS := Lib.hid (TwoBox.start w true room (.slice A n c))
  have hi : i < n := by rw [← hr.1]; exact (List.getElem?_eq_some_iff.1 hx).1
  have hxg : xget xs i = ⟨kind, int, text, op, L, ln, lc, port, backup, R, rn, rc, pipe, uses⟩ := by
    rcases xget_cases xs i with ⟨j, y, hj, hy, -, -, h⟩ | ⟨-, -, h | h | ⟨j, y, hj, hy, h⟩⟩
    · have : j = i := by omega
      subst this
      rw [h]; rw [hy] at hx; exact Option.some.inj hx
    · omega
    · rw [hr.1] at h; omega
    · have : j = i := by omega
      subst this
      rw [hy] at hx
      have := Option.some.inj hx
      subst this
      simp at h
      omega
  have HG : Hid (∀ W, Below w.heap.size w W → Calls Try.prog 11 #[.agg #[.bool true, .int .i64 room, .slice A n c], .int .i64 i] W fun e w' => e = .returned (.agg #[.int .i64 kind, .int .i64 int, .string text, .int .i64 op, .slice L ln lc, .int .i64 port, .int .i64 backup, .slice R rn rc, .bool pipe, .int .i64 uses]) ∧ Below W.heap.size W w') := fun W hW => by
    have := rget_any true room A n c xs i W (hr.below hW) hn
    rwa [hxg] at this
  have HA : Hid (∀ W, TwoBox w W w.heap.size true room (.slice A n c) → Calls Try.prog 35 #[.agg #[.bool true, .int .i64 room, .slice A n c], .int .i64 i, .agg #[.int .i64 kind, .int .i64 int, .string text, .int .i64 op, .slice L ln lc, .int .i64 port, .int .i64 backup, .slice R rn rc, .bool pipe, .int .i64 (uses + 1)]] W fun e W' =>
      ∃ A' c', e = .returned (.agg #[.bool true, .int .i64 room, .slice A' n c']) ∧ W'.ownsRow W.heap.size 37 10 (.slice A' n c') n (flatE xv (xs.set i ⟨kind, int, text, op, L, ln, lc, port, backup, R, rn, rc, pipe, uses + 1⟩)) ∧ TwoBox w W' w.heap.size true room (.slice A n c)) := fun W hW =>
    (at_set true room A n c i xs ⟨kind, int, text, op, L, ln, lc, port, backup, R, rn, rc, pipe, uses + 1⟩ W (hr.below hW.below) hn hi).mono fun e W' ⟨v, he, ho, hb⟩ => by
      obtain ⟨A', c', rfl, -, -⟩ := Rd.of_own xv_len (by decide) ho
      exact ⟨A', c', he, ho, hW.next hb⟩
  have hu0 : (uses == 0) = false := by simp; omega
  clear hr hx hxg
  go_enter Try.func27, Try.ntmps27
  go_wp2_with fail
  refine (HG.out _ KS.out.below).mono ?_
  rintro e w3 ⟨rfl, hb3⟩
  have hk := KS.out.next hb3
  have hlt := hk.lt
  have hlt0 : w.heap.size < w3.heap.size := by omega
  obtain ⟨c0, c1, c2, -⟩ := three_box hk.one
  obtain ⟨d0, d1, d2, e0, e1, e2⟩ := three_box hk.two
  have HK := Lib.hid hk
  clear hk hb3
  go_wp2_with fail
  refine (HA.out _ (HK.out.next ((Below.refl _ _).alloc (Nat.le_refl _) _))).mono ?_
  rintro e w6 ⟨A', c', rfl, ho, hk6⟩
  clear c0 c1 c2 d0 d1 d2 e0 e1 e2
  obtain ⟨d0, d1, d2, e0, e1, e2⟩ := three_box hk6.two
  have hs1 : (w3.alloc (.cells #[.int .i64 kind, .int .i64 int, .string text, .int .i64 op, .slice L ln lc, .int .i64 port, .int .i64 backup, .slice R rn rc, .bool pipe, .int .i64 (uses + 1)] 37)).heap.size = w3.heap.size + 1 := by simp
  rw [hs1] at ho
  have HO := Lib.hid ho
  have HK6 := Lib.hid hk6
  clear ho hk6
  go_wp2
  refine bodyPost_ret (by simp [results, Try.results27, go_sem, d0, d1, d2]; try rfl) rfl ?_
  refine ⟨_, rfl, own_mono (ownsRow_setCell_below (ownsRow_setCell_below (ownsRow_setCell_below HO.out ?_ _) ?_ _) ?_ _) ?_, ((HK6.out.below.setCell ?_ _).setCell ?_ _).setCell ?_ _⟩
  all_goals first | omega | (simp; done) | (simp; omega)

/-! ### Unref -/
theorem runref_not (room : Int) (A : Option Addr) (n c : Nat) (id : Int) (w : World) :
    Calls Try.prog 28 #[.agg #[.bool false, .int .i64 room, .slice A n c], .int .i64 id] w fun e w' =>
      e = .returned (.tuple #[.agg #[.bool false, .int .i64 room, .slice A n c], .bool false, .int .i64 1]) ∧ Below w.heap.size w w' := by
  go_enter Try.func28, Try.ntmps28
  go_wp2
  refine bodyPost_ret (by simp [results, Try.results28, go_sem]; try rfl) rfl ?_
  exact ⟨rfl, by go_grown⟩

set_option maxHeartbeats 2000000 in
theorem runref_none (room : Int) (A : Option Addr) (n c : Nat) (xs : List XV) (id : Int) (w : World) (hr : Rd xv 10 w A n xs) (hn : n ≤ 1000) (hx : xget xs id = XV.zero) :
    Calls Try.prog 28 #[.agg #[.bool true, .int .i64 room, .slice A n c], .int .i64 id] w fun e w' =>
      e = .returned (.tuple #[.agg #[.bool true, .int .i64 room, .slice A n c], .bool false, .int .i64 31]) ∧ Below w.heap.size w w' := by
  have KS := Lib.hid (TwoBox.start w true room (.slice A n c))
  have HG : Hid (∀ W, Below w.heap.size w W → Calls Try.prog 11 #[.agg #[.bool true, .int .i64 room, .slice A n c], .int .i64 id] W fun e w' => e = .returned (.agg #[.int .i64 0, .int .i64 0, .string ByteArray.empty, .int .i64 0, .slice none 0 0, .int .i64 0, .int .i64 0, .slice none 0 0, .bool false, .int .i64 0]) ∧ Below W.heap.size W w') := fun W hW => by
    have := rget_any true room A n c xs id W (hr.below hW) hn
    rwa [hx] at this
  clear hr hx
  go_enter Try.func28, Try.ntmps28
  go_wp2_with fail
  refine (HG.out _ KS.out.below).mono ?_
  rintro e w3 ⟨rfl, hb3⟩
  have hk := KS.out.next hb3
  have hlt := hk.lt
  have hlt0 : w.heap.size < w3.heap.size := by omega
  obtain ⟨c0, c1, c2, -⟩ := three_box hk.one
  obtain ⟨d0, d1, d2, e0, e1, e2⟩ := three_box hk.two
  have HK := Lib.hid hk
  clear hk hb3
  go_wp2
  refine bodyPost_ret (by simp [results, Try.results28, go_sem, hlt, d0, d1, d2]; try rfl) rfl ?_
  refine ⟨rfl, (((HK.out.below.setCell ?_ _).setCell ?_ _).setCell ?_ _).alloc ?_ _⟩
  all_goals first | omega | (simp; done) | (simp; omega)


/-- three boxes: the pool, the answer, and (at g) the thing -/
structure BoxX (w w' : World) (g : Nat) (b : Bool) (room : Int) (v : Value) (cs : List Value) : Prop where
  two : TwoBox w w' w.heap.size b room v
  x : w'.heap[g]? = some (.cells cs.toArray 37 (0, 0))
theorem BoxX.next {w w' w2 : World} {g : Nat} {b : Bool} {room : Int} {v : Value} {cs : List Value} (k : BoxX w w' g b room v cs) (hb : Below w'.heap.size w' w2) : BoxX w w2 g b room v cs :=
  ⟨k.two.next hb, (hb.block _ (Array.getElem?_eq_some_iff.1 k.x).1).trans k.x⟩

set_option maxHeartbeats 4000000 in
theorem runref_some (room : Int) (A : Option Addr) (n c : Nat) (xs : List XV) (i : Nat) (kind int : Int) (text : ByteArray) (op : Int) (L : Option Addr) (ln lc : Nat) (port backup : Int) (R : Option Addr) (rn rc : Nat) (pipe : Bool) (uses : Int) (w : World) (hr : Rd xv 10 w A n xs) (hn : n ≤ 1000)
    (hx : xs[i]? = some ⟨kind, int, text, op, L, ln, lc, port, backup, R, rn, rc, pipe, uses⟩) (hu : 0 < uses) (hu2 : uses ≤ 1000) :
    Calls Try.prog 28 #[.agg #[.bool true, .int .i64 room, .slice A n c], .int .i64 i] w fun e w' =>
      ∃ v, e = .returned (.tuple #[.agg #[.bool true, .int .i64 room, v], .bool (uses - 1 == 0), .int .i64 0]) ∧ w'.ownsRow w.heap.size 37 10 v n (flatE xv (xs.set i ⟨kind, int, text, op, L, ln, lc, port, backup, R, rn, rc, pipe, uses - 1⟩)) ∧ Below w.heap.size w w' := by
  have KS := Lib.hid (TwoBox.start w true room (.slice A n c))
  have hi : i < n := by rw [← hr.1]; exact (List.getElem?_eq_some_iff.1 hx).1
  have hxg : xget xs i = ⟨kind, int, text, op, L, ln, lc, port, backup, R, rn, rc, pipe, uses⟩ := by
    rcases xget_cases xs i with ⟨j, y, hj, hy, -, -, h⟩ | ⟨-, -, h | h | ⟨j, y, hj, hy, h⟩⟩
    · have : j = i := by omega
      subst this
      rw [h]; rw [hy] at hx; exact Option.some.inj hx
    · omega
    · rw [hr.1] at h; omega
    · have : j = i := by omega
      subst this
      rw [hy] at hx
      have := Option.some.inj hx
      subst this
      simp at h
      omega
  have HG : Hid (∀ W, Below w.heap.size w W → Calls Try.prog 11 #[.agg #[.bool true, .int .i64 room, .slice A n c], .int .i64 i] W fun e w' => e = .returned (.agg #[.int .i64 kind, .int .i64 int, .string text, .int .i64 op, .slice L ln lc, .int .i64 port, .int .i64 backup, .slice R rn rc, .bool pipe, .int .i64 uses]) ∧ Below W.heap.size W w') := fun W hW => by
    have := rget_any true room A n c xs i W (hr.below hW) hn
    rwa [hxg] at this
  have HA : Hid (∀ g, w.heap.size + 1 < g → ∀ W, BoxX w W g true room (.slice A n c) [.int .i64 kind, .int .i64 int, .string text, .int .i64 op, .slice L ln lc, .int .i64 port, .int .i64 backup, .slice R rn rc, .bool pipe, .int .i64 (uses - 1)] → Calls Try.prog 35 #[.agg #[.bool true, .int .i64 room, .slice A n c], .int .i64 i, .agg #[.int .i64 kind, .int .i64 int, .string text, .int .i64 op, .slice L ln lc, .int .i64 port, .int .i64 backup, .slice R rn rc, .bool pipe, .int .i64 (uses - 1)]] W fun e W' =>
      ∃ A' c', e = .returned (.agg #[.bool true, .int .i64 room, .slice A' n c']) ∧ W'.ownsRow (g + 1) 37 10 (.slice A' n c') n (flatE xv (xs.set i ⟨kind, int, text, op, L, ln, lc, port, backup, R, rn, rc, pipe, uses - 1⟩)) ∧ BoxX w W' g true room (.slice A n c) [.int .i64 kind, .int .i64 int, .string text, .int .i64 op, .slice L ln lc, .int .i64 port, .int .i64 backup, .slice R rn rc, .bool pipe, .int .i64 (uses - 1)] ∧ W'.cell? ⟨g, 9, none⟩ = some (.int .i64 (uses - 1))) := fun g hg W hW =>
    (at_set true room A n c i xs ⟨kind, int, text, op, L, ln, lc, port, backup, R, rn, rc, pipe, uses - 1⟩ W (hr.below hW.two.below) hn hi).mono fun e W' ⟨v, he, ho, hb⟩ => by
      obtain ⟨A', c', rfl, -, -⟩ := Rd.of_own xv_len (by decide) ho
      have hgl := (Array.getElem?_eq_some_iff.1 hW.x).1
      have hk := hW.next hb
      exact ⟨A', c', he, own_mono ho (by omega), hk, (ten_box hk.x).2.2.2.2.2.2.2.2.2⟩
  have hu0 : (uses == 0) = false := by simp; omega
  clear hr hx hxg
  go_enter Try.func28, Try.ntmps28
  go_wp2_with fail
  refine (HG.out _ KS.out.below).mono ?_
  rintro e w3 ⟨rfl, hb3⟩
  have hk := KS.out.next hb3
  have hlt := hk.lt
  have hlt0 : w.heap.size < w3.heap.size := by omega
  obtain ⟨c0, c1, c2, -⟩ := three_box hk.one
  obtain ⟨d0, d1, d2, e0, e1, e2⟩ := three_box hk.two
  have HK := Lib.hid hk
  clear hk hb3
  go_wp2_with fail
  have hx7 : BoxX w (w3.alloc (.cells #[.int .i64 kind, .int .i64 int, .string text, .int .i64 op, .slice L ln lc, .int .i64 port, .int .i64 backup, .slice R rn rc, .bool pipe, .int .i64 (uses - 1)] 37)) w3.heap.size true room (.slice A n c) [.int .i64 kind, .int .i64 int, .string text, .int .i64 op, .slice L ln lc, .int .i64 port, .int .i64 backup, .slice R rn rc, .bool pipe, .int .i64 (uses - 1)] :=
    ⟨HK.out.next ((Below.refl _ _).alloc (Nat.le_refl _) _), heap_alloc_new _ _⟩
  generalize w3.alloc _ = w7 at *
  generalize w3.heap.size = g at *
  clear c0 c1 c2 d0 d1 d2 e0 e1 e2
  clear HK hlt0
  have hne : ¬ g = w.heap.size + 1 := by omega
  have hne' : ¬ w.heap.size + 1 = g := by omega
  obtain ⟨c0, c1, c2, -⟩ := three_box hx7.two.one
  obtain ⟨d0, d1, d2, e0, e1, e2⟩ := three_box hx7.two.two
  obtain ⟨g0, g1, g2, g3, g4, g5, g6, g7, g8, g9⟩ := ten_box hx7.x
  have HGA := Lib.hid (HA.out g hlt)
  go_region_with (first | (go_at_call 35; (with_reducible refine (HGA.out _ ?_).mono ?_); (first | assumption | exact hx7.next (Below.refl _ _).drew); rintro e w6 ⟨A', c', rfl, ho, hx6, k9⟩; obtain ⟨p0, p1, p2, r0, r1, r2⟩ := three_box hx6.two.two))
  all_goals
    have HO := Lib.hid ho
    have HX6 := Lib.hid hx6
    clear ho hx6 hx7
  all_goals go_wp2
  all_goals
    refine bodyPost_ret (by simp [results, Try.results28, go_sem, p0, p1, p2]; try rfl) rfl ?_
    refine ⟨_, rfl, own_mono (ownsRow_setCell_below (ownsRow_setCell_below (ownsRow_setCell_below HO.out ?_ _) ?_ _) ?_ _) ?_, ((HX6.out.two.below.setCell ?_ _).setCell ?_ _).setCell ?_ _⟩
    all_goals first | omega | (simp; done) | (simp; omega)

end Go.Proofs.Ytifadjakpllpfaa
