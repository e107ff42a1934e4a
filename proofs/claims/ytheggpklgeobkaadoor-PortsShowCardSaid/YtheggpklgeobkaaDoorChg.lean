/-
  New, Add, Remove, Set: what becomes of the interfaces in memory.
-/
import Derived.Test.YtheggpklgeobkaaDoorAt
namespace Go.Proofs.YtheggpklgeobkaaDoor
open Go.RowKit

/-- from interfaces g in w to g' in w' -/
structure Chg (w w' : World) (p B : Nat) (g g' : PG) : Prop where
  to : PtsAt w' p B g'
  kept : Kept w w' p g
  own : ∀ k, OwnP p g' k → OwnP p g k ∨ w.heap.size ≤ k
theorem Chg.refl {w : World} {p B : Nat} {g : PG} (h : PtsAt w p B g) : Chg w w p B g g := ⟨h, Kept.refl _ _ _, fun _ h => Or.inl h⟩
/-- the call answers e, and makes of the interfaces S -/
def Does (w : World) (p B : Nat) (g : PG) (e : Int) (S : PS) (en : Ending) (w' : World) : Prop := en = .returned (.int .i64 e) ∧ ∃ g', abs g' = S ∧ Chg w w' p B g g'
theorem does_no {w : World} {p B : Nat} {g : PG} (h : PtsAt w p B g) {e : Int} {S : PS} (hS : abs g = S) : Does w p B g e S (.returned (.int .i64 e)) w := ⟨rfl, g, hS, Chg.refl h⟩

theorem updG_self {g : PG} {k : Nat} {x : Option (Nat × Int × Bool)} : updG g k x k = x := by simp [updG]
theorem updG_ne {g : PG} {k i : Nat} {x : Option (Nat × Int × Bool)} (h : i ≠ k) : updG g k x i = g i := by simp [updG, h]
theorem own_upd {p : Nat} {g : PG} {k : Nat} {x : Option (Nat × Int × Bool)} {b : Nat} (h : OwnP p (updG g k x) b) : OwnP p g b ∨ ∃ y, x = some y ∧ y.1 = b := by
  rcases h with h | ⟨i, hi, y, hy, he⟩
  · exact Or.inl (Or.inl h)
  · by_cases e : i = k
    · subst e; rw [updG_self] at hy; exact Or.inr ⟨y, hy, he⟩
    · rw [updG_ne e] at hy; exact Or.inl (Or.inr ⟨i, hi, y, hy, he⟩)

/-- an interface is let go -/
theorem PtsAt.removed {w : World} {p B : Nat} {g : PG} (h : PtsAt w p B g) {k : Nat} (hk : k < 64) : Chg w (w.setCell ⟨p, k, none⟩ (.pointer none)) p B g (updG g k none) := by
  refine ⟨⟨?_, h.lo, fun i hi x hx => ?_⟩, ⟨rfl, rfl, rfl, by simp, fun b hb ho => ?_⟩, fun b hb => ?_⟩
  · rw [heap_setCell_same w p k _ _ _ h.row, ← rowP_set g hk]; rfl
  · by_cases e : i = k
    · subst e; rw [updG_self] at hx; cases hx
    · rw [updG_ne e] at hx
      obtain ⟨h1, h2⟩ := h.ent i hi x hx
      exact ⟨by rw [heap_setCell_other w _ _ _ (h.ne hi hx)]; exact h1, h2⟩
  · exact heap_setCell_other w _ _ _ (fun e => ho (Or.inl e))
  · rcases own_upd hb with h1 | ⟨y, hy, _⟩
    · exact Or.inl h1
    · cases hy
/-- an interface is set up, or down -/
theorem PtsAt.turned {w : World} {p B : Nat} {g : PG} (h : PtsAt w p B g) {k : Nat} (hk : k < 64) {x : Nat × Int × Bool} (hx : g k = some x) (u : Bool) :
    Chg w (w.setCell ⟨x.1, 2, none⟩ (.bool u)) p B g (updG g k (some (x.1, x.2.1, u))) := by
  refine ⟨⟨?_, h.lo, fun i hi y hy => ?_⟩, ⟨rfl, rfl, rfl, by simp, fun b hb ho => ?_⟩, fun b hb => ?_⟩
  · rw [heap_setCell_other w _ _ _ (h.ne hk hx).symm, h.row, ← rowP_set g hk]
    congr 2
    apply Array.ext_getElem?
    intro j
    rw [Array.getElem?_setIfInBounds]
    split
    · rename_i e; subst e
      rw [rowP_at g hk, hx, if_pos (by simp; exact hk)]; rfl
    · rfl
  · by_cases e : i = k
    · subst e
      rw [updG_self] at hy
      cases hy
      obtain ⟨h1, h2⟩ := h.ent i hi x hx
      exact ⟨by rw [heap_setCell_same w x.1 2 _ _ _ h1]; rfl, h2⟩
    · rw [updG_ne e] at hy
      obtain ⟨h1, h2⟩ := h.ent i hi y hy
      exact ⟨by rw [heap_setCell_other w _ _ _ (fun e' => e (h.inj hi hk hy hx e'))]; exact h1, h2⟩
  · exact heap_setCell_other w _ _ _ (fun e => ho (Or.inr ⟨k, hk, x, hx, e.symm⟩))
  · rcases own_upd hb with h1 | ⟨y, hy, he⟩
    · exact Or.inl h1
    · cases hy; exact Or.inl (Or.inr ⟨k, hk, x, hx, he⟩)
/-- an interface comes -/
theorem PtsAt.added {w : World} {p B : Nat} {g : PG} (h : PtsAt w p B g) (hB : B ≤ w.heap.size) {k : Nat} (hk : k < 64) (mtu : Int) :
    Chg w ((w.setCell ⟨p, k, none⟩ (.pointer (some ⟨w.heap.size, 0, none⟩))).alloc (.cells #[.int .i64 (k : Int), .int .i64 mtu, .bool true] 42)) p B g (updG g k (some (w.heap.size, mtu, true))) := by
  have hlt := h.lt
  have hsz : (w.setCell ⟨p, k, none⟩ (.pointer (some ⟨w.heap.size, 0, none⟩))).heap.size = w.heap.size := by simp
  refine ⟨⟨?_, h.lo, fun i hi x hx => ?_⟩, ⟨rfl, rfl, rfl, by simp, fun b hb ho => ?_⟩, fun b hb => ?_⟩
  · rw [Lib.alloc_old _ _ _ (by rw [hsz]; exact hlt), heap_setCell_same w p k _ _ _ h.row, ← rowP_set g hk]; rfl
  · by_cases e : i = k
    · subst e
      rw [updG_self] at hx
      cases hx
      refine ⟨?_, hB⟩
      have := heap_alloc_new (w.setCell ⟨p, i, none⟩ (.pointer (some ⟨w.heap.size, 0, none⟩))) (.cells #[.int .i64 (i : Int), .int .i64 mtu, .bool true] 42)
      rw [hsz] at this
      exact this
    · rw [updG_ne e] at hx
      obtain ⟨h1, h2⟩ := h.ent i hi x hx
      exact ⟨by rw [Lib.alloc_old _ _ _ (by rw [hsz]; exact (Array.getElem?_eq_some_iff.1 h1).1), heap_setCell_other _ _ _ _ (h.ne hi hx)]; exact h1, h2⟩
  · rw [Lib.alloc_old _ _ _ (by rw [hsz]; exact hb), heap_setCell_other _ _ _ _ (fun e => ho (Or.inl e))]
  · rcases own_upd hb with h1 | ⟨y, hy, he⟩
    · exact Or.inl h1
    · cases hy; exact Or.inr (Nat.le_of_eq he)

@[go_sem] theorem zero_ports (w : World) : (zeroValue 46).run Tryd.prog w = .ok (.agg (rowP fun _ => none)) w := by kernel_rfl
theorem new_any (w : World) : Calls Tryd.prog 7 #[] w fun e w' => e = .returned (.pointer (some ⟨w.heap.size, 0, none⟩)) ∧ PtsAt w' w.heap.size w.heap.size (fun _ => none) ∧ Below w.heap.size w w' := by
  go_enter Tryd.func7, Tryd.ntmps7
  go_wp2
  go_ret
  exact ⟨rfl, ⟨heap_alloc_new _ _, Nat.le_refl _, fun i hi x hx => by cases hx⟩, by go_grown⟩

theorem addE_bad {S : PS} {n mtu : Int} (h : ¬ inP n) : addE S n mtu = 50 := by simp [addE, h]
theorem addE_mtu {S : PS} {n mtu : Int} (h : inP n) (hm : mtu < 68 ∨ 65535 < mtu) : addE S n mtu = 1 := by simp [addE, h, hm]
theorem addE_twice {g : PG} {k : Nat} (h : k < 64) {mtu : Int} (hm : ¬ (mtu < 68 ∨ 65535 < mtu)) {x : Nat × Int × Bool} (hx : g k = some x) : addE (abs g) (k : Int) mtu = 32 := by simp [addE, inP_nat h, hm, abs, hx]
theorem addE_ok {g : PG} {k : Nat} (h : k < 64) {mtu : Int} (hm : ¬ (mtu < 68 ∨ 65535 < mtu)) (hx : g k = none) : addE (abs g) (k : Int) mtu = 0 := by simp [addE, inP_nat h, hm, abs, hx]
theorem addS_no {S : PS} {n mtu : Int} (h : addE S n mtu ≠ 0) : addS S n mtu = S := by simp [addS, h]
theorem hasE_bad {S : PS} {n : Int} (h : ¬ inP n) : hasE S n = 50 := by simp [hasE, h]
theorem hasE_none {g : PG} {k : Nat} (h : k < 64) (hx : g k = none) : hasE (abs g) (k : Int) = 31 := by simp [hasE, inP_nat h, abs, hx]
theorem hasE_some {g : PG} {k : Nat} (h : k < 64) {x : Nat × Int × Bool} (hx : g k = some x) : hasE (abs g) (k : Int) = 0 := by simp [hasE, inP_nat h, abs, hx]

set_option maxHeartbeats 1000000 in
theorem add_nil (n mtu : Int) (w : World) : Calls Tryd.prog 10 #[.pointer none, .int .i64 n, .int .i64 mtu] w fun e w' => e = .returned (.int .i64 1) ∧ w = w' := by
  have HA := Lib.hid (at_nil n w)
  unfold ret2 at HA
  go_enter Tryd.func10, Tryd.ntmps10
  go_wp2_with (go_at_call 23; refine (HA.out).mono ?_; rintro e w' ⟨rfl, rfl⟩)
  go_ret
  exact ⟨rfl, rfl⟩
set_option maxHeartbeats 1000000 in
theorem add_any {w : World} {p B : Nat} {g : PG} (hp : PtsAt w p B g) (hB : B ≤ w.heap.size) (n mtu : Int) :
    Calls Tryd.prog 10 #[.pointer (some ⟨p, 0, none⟩), .int .i64 n, .int .i64 mtu] w (Does w p B g (addE (abs g) n mtu) (addS (abs g) n mtu)) := by
  have HP := Lib.hid hp
  by_cases h : inP n
  · obtain ⟨k, rfl, hk⟩ := nat_of_inP h
    have HA := Lib.hid (at_ok p hk w)
    unfold ret2 at HA
    by_cases hm : mtu < 68 ∨ 65535 < mtu
    · have HE := Lib.hid (addE_mtu (S := abs g) h hm)
      clear h hk hp
      rcases hm with hm | hm
      · go_enter Tryd.func10, Tryd.ntmps10
        go_wp2_with (go_at_call 23; refine (HA.out).mono ?_; rintro e w' ⟨rfl, rfl⟩)
        go_ret
        rw [HE.out]
        exact does_no HP.out (addS_no (by rw [HE.out]; decide)).symm
      · have hm' : decide (mtu < 68) = false := by simp; omega
        go_enter Tryd.func10, Tryd.ntmps10
        go_wp2_with (go_at_call 23; refine (HA.out).mono ?_; rintro e w' ⟨rfl, rfl⟩)
        go_ret
        rw [HE.out]
        exact does_no HP.out (addS_no (by rw [HE.out]; decide)).symm
    · have hm1 : decide (mtu < 68) = false := by simp; omega
      have hm2 : decide (mtu > 65535) = false := by simp; omega
      cases hx : g k with
      | some x =>
        have HE := Lib.hid (addE_twice hk hm hx)
        have hc := hp.cell hk
        rw [hx] at hc
        change w.cell? ⟨p, k, none⟩ = some (.pointer (some ⟨x.1, 0, none⟩)) at hc
        clear h hk hp hx hm
        go_enter Tryd.func10, Tryd.ntmps10
        go_wp2_with (go_at_call 23; refine (HA.out).mono ?_; rintro e w' ⟨rfl, rfl⟩)
        go_ret
        rw [HE.out]
        exact does_no HP.out (addS_no (by rw [HE.out]; decide)).symm
      | none =>
        have HE := Lib.hid (addE_ok hk hm hx)
        have HS := Lib.hid (show abs (updG g k (some (w.heap.size, mtu, true))) = addS (abs g) k mtu by rw [abs_upd, addS, if_pos HE.out]; rfl)
        have hc := hp.cell hk
        have hf := hp.fr k
        have hlt := hp.lt
        have HD := Lib.hid (hp.added hB hk mtu)
        rw [hx] at hc
        change w.cell? ⟨p, k, none⟩ = some (.pointer none) at hc
        clear h hk hp hx hm
        go_enter Tryd.func10, Tryd.ntmps10
        go_wp2_with (go_at_call 23; refine (HA.out).mono ?_; rintro e w' ⟨rfl, rfl⟩)
        go_ret
        rw [HE.out]
        exact ⟨rfl, _, HS.out, HD.out⟩
  · have HA := Lib.hid (at_bad p h w)
    unfold ret2 at HA
    have HE := Lib.hid (addE_bad (S := abs g) (mtu := mtu) h)
    clear h hp
    go_enter Tryd.func10, Tryd.ntmps10
    go_wp2_with (go_at_call 23; refine (HA.out).mono ?_; rintro e w' ⟨rfl, rfl⟩)
    go_ret
    rw [HE.out]
    exact does_no HP.out (addS_no (by rw [HE.out]; decide)).symm

theorem remS_no {S : PS} {n : Int} (h : hasE S n ≠ 0) : remS S n = S := by simp [remS, h]
theorem setS_no {S : PS} {n : Int} {u : Bool} (h : hasE S n ≠ 0) : setS S n u = S := by simp [setS, h]
set_option maxHeartbeats 1000000 in
theorem rem_nil (n : Int) (w : World) : Calls Tryd.prog 11 #[.pointer none, .int .i64 n] w fun e w' => e = .returned (.int .i64 1) ∧ w = w' := by
  have HA := Lib.hid (get_nil n w)
  unfold ret2 at HA
  go_enter Tryd.func11, Tryd.ntmps11
  go_wp2_with (go_at_call 24; refine (HA.out).mono ?_; rintro e w' ⟨rfl, rfl⟩)
  go_ret
  exact ⟨rfl, rfl⟩
set_option maxHeartbeats 1000000 in
theorem set_nil (n : Int) (u : Bool) (w : World) : Calls Tryd.prog 12 #[.pointer none, .int .i64 n, .bool u] w fun e w' => e = .returned (.int .i64 1) ∧ w = w' := by
  have HA := Lib.hid (get_nil n w)
  unfold ret2 at HA
  go_enter Tryd.func12, Tryd.ntmps12
  go_wp2_with (go_at_call 24; refine (HA.out).mono ?_; rintro e w' ⟨rfl, rfl⟩)
  go_ret
  exact ⟨rfl, rfl⟩
set_option maxHeartbeats 1000000 in
theorem rem_any {w : World} {p B : Nat} {g : PG} (hp : PtsAt w p B g) (n : Int) :
    Calls Tryd.prog 11 #[.pointer (some ⟨p, 0, none⟩), .int .i64 n] w (Does w p B g (hasE (abs g) n) (remS (abs g) n)) := by
  have HP := Lib.hid hp
  by_cases h : inP n
  · obtain ⟨k, rfl, hk⟩ := nat_of_inP h
    cases hx : g k with
    | none =>
      have HA := Lib.hid (get_none hp hk hx)
      unfold ret2 at HA
      have HE := Lib.hid (hasE_none hk hx)
      clear h hk hp hx
      go_enter Tryd.func11, Tryd.ntmps11
      go_wp2_with (go_at_call 24; refine (HA.out).mono ?_; rintro e w' ⟨rfl, rfl⟩)
      go_ret
      rw [HE.out]
      exact does_no HP.out (remS_no (by rw [HE.out]; decide)).symm
    | some x =>
      have HA := Lib.hid (get_some hp hk hx)
      unfold ret2 at HA
      have HE := Lib.hid (hasE_some hk hx)
      have HS := Lib.hid (show abs (updG g k none) = remS (abs g) k by rw [abs_upd, remS, if_pos HE.out]; rfl)
      have hc := hp.cell hk
      have hf := hp.fr k
      have HD := Lib.hid (hp.removed hk)
      have hk0 : (0 : Int) ≤ k := by omega
      have hk1 : (k : Int) < 64 := by omega
      rw [hx] at hc
      change w.cell? ⟨p, k, none⟩ = some (.pointer (some ⟨x.1, 0, none⟩)) at hc
      clear h hp hx
      go_enter Tryd.func11, Tryd.ntmps11
      go_wp2_with (go_at_call 24; refine (HA.out).mono ?_; rintro e w' ⟨rfl, rfl⟩)
      go_ret
      rw [HE.out]
      exact ⟨rfl, _, HS.out, HD.out⟩
  · have HA := Lib.hid (get_bad p h w)
    unfold ret2 at HA
    have HE := Lib.hid (hasE_bad (S := abs g) h)
    clear h hp
    go_enter Tryd.func11, Tryd.ntmps11
    go_wp2_with (go_at_call 24; refine (HA.out).mono ?_; rintro e w' ⟨rfl, rfl⟩)
    go_ret
    rw [HE.out]
    exact does_no HP.out (remS_no (by rw [HE.out]; decide)).symm
set_option maxHeartbeats 1000000 in
theorem set_any {w : World} {p B : Nat} {g : PG} (hp : PtsAt w p B g) (n : Int) (u : Bool) :
    Calls Tryd.prog 12 #[.pointer (some ⟨p, 0, none⟩), .int .i64 n, .bool u] w (Does w p B g (hasE (abs g) n) (setS (abs g) n u)) := by
  have HP := Lib.hid hp
  by_cases h : inP n
  · obtain ⟨k, rfl, hk⟩ := nat_of_inP h
    cases hx : g k with
    | none =>
      have HA := Lib.hid (get_none hp hk hx)
      unfold ret2 at HA
      have HE := Lib.hid (hasE_none hk hx)
      clear h hk hp hx
      go_enter Tryd.func12, Tryd.ntmps12
      go_wp2_with (go_at_call 24; refine (HA.out).mono ?_; rintro e w' ⟨rfl, rfl⟩)
      go_ret
      rw [HE.out]
      exact does_no HP.out (setS_no (by rw [HE.out]; decide)).symm
    | some x =>
      have HA := Lib.hid (get_some hp hk hx)
      unfold ret2 at HA
      have HE := Lib.hid (hasE_some hk hx)
      have HS := Lib.hid (show abs (updG g k (some (x.1, x.2.1, u))) = setS (abs g) k u by rw [abs_upd, setS, if_pos HE.out]; congr 1; simp [abs, hx])
      obtain ⟨-, c0, c1, c2, cf⟩ := hp.entC hk hx
      have cf2 := cf 2
      have HD := Lib.hid (hp.turned hk hx u)
      clear h hp hx cf hk
      go_enter Tryd.func12, Tryd.ntmps12
      go_wp2_with (go_at_call 24; refine (HA.out).mono ?_; rintro e w' ⟨rfl, rfl⟩)
      go_ret
      rw [HE.out]
      exact ⟨rfl, _, HS.out, HD.out⟩
  · have HA := Lib.hid (get_bad p h w)
    unfold ret2 at HA
    have HE := Lib.hid (hasE_bad (S := abs g) h)
    clear h hp
    go_enter Tryd.func12, Tryd.ntmps12
    go_wp2_with (go_at_call 24; refine (HA.out).mono ?_; rintro e w' ⟨rfl, rfl⟩)
    go_ret
    rw [HE.out]
    exact does_no HP.out (setS_no (by rw [HE.out]; decide)).symm
end Go.Proofs.YtheggpklgeobkaaDoor
