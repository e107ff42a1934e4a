/-
  What is seen of both pools at a number: the same.
-/
import Derived.Test.YtifadjakpllpfaaRowLib
namespace Go.Proofs.Ytifadjakpllpfaa
open Go.RowKit

theorem int_nil (id : Int) (w : World) : Calls Try.prog 12 #[.pointer none, .int .i64 id] w fun e w' => e = .returned (.tuple #[.int .i64 0, .bool false]) ∧ w' = w := by
  go_enter Try.func12, Try.ntmps12
  go_wp2_with fail
  refine (value_nil id w).mono ?_
  rintro e w1 ⟨rfl, rfl⟩
  go_wp2
  go_ret2
  exact ⟨rfl, rfl⟩
theorem text_nil (id : Int) (w : World) : Calls Try.prog 13 #[.pointer none, .int .i64 id] w fun e w' => e = .returned (.tuple #[.string ByteArray.empty, .bool false]) ∧ w' = w := by
  go_enter Try.func13, Try.ntmps13
  go_wp2_with fail
  refine (value_nil id w).mono ?_
  rintro e w1 ⟨rfl, rfl⟩
  go_wp2
  go_ret2
  exact ⟨rfl, rfl⟩
set_option maxHeartbeats 1000000 in
theorem hop_nil (id : Int) (w : World) :
    Calls Try.prog 14 #[.pointer none, .int .i64 id] w fun e w' =>
      ∃ vl vr, e = .returned (.tuple #[.agg #[.int .i64 0, vl, .int .i64 0, .int .i64 0, vr, .bool false], .bool false]) ∧ w'.ownsRow w.heap.size 3 1 vl 0 (flatE int1 []) ∧ w'.ownsRow w.heap.size 3 1 vr 0 (flatE int1 []) ∧ Below w.heap.size w w' := by
  have HC := Lib.hid (fun W => copied_any 0 0 0 none none 0 0 0 0 false [] [] W (Rd.nil _ _) (Rd.nil _ _) (by decide) (by decide))
  go_enter Try.func14, Try.ntmps14
  go_wp2_with fail
  refine (value_nil id _).mono ?_
  rintro e w1 ⟨rfl, rfl⟩
  go_wp2_with fail
  refine (HC.out _).mono ?_
  rintro e w2 ⟨vl, vr, rfl, hol, hor, hb⟩
  obtain ⟨Al, cl, rfl, -, -⟩ := Rd.of_own int1_len (by decide) hol
  obtain ⟨Ar, cr, rfl, -, -⟩ := Rd.of_own int1_len (by decide) hor
  have HB := Lib.hid hb
  have HO := Lib.hid (And.intro hol hor)
  obtain ⟨r0, r1, r2, r3, r4, r5, s0, s1, s2, s3, s4, s5⟩ := zero_box (h := w.heap.size) (w := w2) ((hb.block _ (by first | (simp; done) | (simp; omega))).trans (heap_alloc2_old _ _ _))
  clear hb hol hor
  go_wp2
  refine bodyPost_ret (by simp [results, Try.results14, go_sem, r0, r1, r2, r3, r4, r5]; try rfl) rfl ?_
  refine ⟨_, _, rfl, own_mono (base := w.heap.size + 1) ?_ (by omega), own_mono (base := w.heap.size + 1) ?_ (by omega), ?_⟩
  · refine ownsRow_setCell_below (ownsRow_setCell_below (ownsRow_setCell_below (ownsRow_setCell_below (ownsRow_setCell_below (ownsRow_setCell_below ?_ (by simp) _) (by simp) _) (by simp) _) (by simp) _) (by simp) _) (by simp) _
    exact own_mono HO.out.1 (by first | (simp; done) | (simp; omega))
  · refine ownsRow_setCell_below (ownsRow_setCell_below (ownsRow_setCell_below (ownsRow_setCell_below (ownsRow_setCell_below (ownsRow_setCell_below ?_ (by simp) _) (by simp) _) (by simp) _) (by simp) _) (by simp) _) (by simp) _
    exact own_mono HO.out.2 (by first | (simp; done) | (simp; omega))
  · exact ((((((below_step (by go_grown) HB.out : Below w.heap.size w w2).setCell (by simp) _).setCell (by simp) _).setCell (by simp) _).setCell (by simp) _).setCell (by simp) _).setCell (by simp) _

theorem xget_of {xs : List XV} {i : Nat} {x : XV} (hx : xs[i]? = some x) (hu : x.uses ≠ 0) : xget xs i = x := by
  rcases xget_cases xs i with ⟨j, y, hj, hy, -, -, h⟩ | ⟨-, -, h | h | ⟨j, y, hj, hy, h⟩⟩
  · obtain rfl : j = i := by omega
    rw [h]
    rw [hy] at hx
    exact Option.some.inj hx
  · omega
  · have := (List.getElem?_eq_some_iff.1 hx).1; omega
  · obtain rfl : j = i := by omega
    rw [hy] at hx
    obtain rfl := Option.some.inj hx
    exact absurd h hu
theorem xget_nil (id : Int) : xget [] id = XV.zero := by
  rcases xget_cases [] id with ⟨i, x, _, hx, _⟩ | ⟨-, hg, -⟩
  · simp at hx
  · exact hg
theorem valAt_of {ts : List (Value × Int)} {i : Nat} {t : Value × Int} (ht : ts[i]? = some t) (hu : t.2 ≠ 0) : valAt ts i = t.1 := by
  unfold valAt
  rw [look_of ht hu]
  show (ts.getD i (.nilIface, 0)).1 = _
  rw [getD_of ht]
theorem usesAt_of {ts : List (Value × Int)} {i : Nat} {t : Value × Int} (ht : ts[i]? = some t) (hu : t.2 ≠ 0) : usesAt ts i = t.2 := by
  unfold usesAt
  rw [look_of ht hu]
  show (ts.getD i (.nilIface, 0)).2 = _
  rw [getD_of ht]
theorem valAt_not {ts : List (Value × Int)} {id : Int} (h : look ts id = none) : valAt ts id = (Form.none).val := by unfold valAt; rw [h]; rfl
theorem usesAt_not {ts : List (Value × Int)} {id : Int} (h : look ts id = none) : usesAt ts id = 0 := by unfold usesAt; rw [h]

section
variable {w0 w w' : World} {B : Nat} {room : Int} {k : Nat} {p : Option Addr} {b : Bool} {A : Option Addr} {n c : Nat} {ts : List (Value × Int)} {xs : List XV}
theorem St.int (S : St w0 w B room k p b A n c ts xs) (id : Int) : Calls Try.prog 12 #[.pointer p, .int .i64 id] w fun e w' => e = .returned (.tuple #[.int .i64 (xget xs id).int, .bool ((xget xs id).kind == 1)]) ∧ w' = w := by
  cases S with
  | live g _ _ _ _ _ S =>
    obtain ⟨v, hp⟩ := S.pool
    rcases S.rel.look id with ⟨i, x, t, rfl, hx, ht, hu, hxu, hs⟩ | ⟨hl, hg⟩
    · rw [xget_of hx (by omega)]
      have hv := valAt_of ht hu
      obtain ⟨tv, tu⟩ := t
      simp only at hs hv
      cases hs with
      | num n u => exact int_at i (.num n) (hv.trans rfl) hp
      | text s u => exact int_at i (.text s) (hv.trans rfl) hp
      | hop op L ln lc port backup R rn rc pipe u L' lc' R' rc' ll rl => exact int_at i (.hop op L' ln lc' port backup R' rn rc' pipe) (hv.trans rfl) hp
    · rw [hg]
      exact int_at id .none (valAt_not hl) hp
  | dead => rw [xget_nil]; exact int_nil id w
theorem St.text (S : St w0 w B room k p b A n c ts xs) (id : Int) : Calls Try.prog 13 #[.pointer p, .int .i64 id] w fun e w' => e = .returned (.tuple #[.string (xget xs id).text, .bool ((xget xs id).kind == 2)]) ∧ w' = w := by
  cases S with
  | live g _ _ _ _ _ S =>
    obtain ⟨v, hp⟩ := S.pool
    rcases S.rel.look id with ⟨i, x, t, rfl, hx, ht, hu, hxu, hs⟩ | ⟨hl, hg⟩
    · rw [xget_of hx (by omega)]
      have hv := valAt_of ht hu
      obtain ⟨tv, tu⟩ := t
      simp only at hs hv
      cases hs with
      | num n u => exact text_at i (.num n) (hv.trans rfl) hp
      | text s u => exact text_at i (.text s) (hv.trans rfl) hp
      | hop op L ln lc port backup R rn rc pipe u L' lc' R' rc' ll rl => exact text_at i (.hop op L' ln lc' port backup R' rn rc' pipe) (hv.trans rfl) hp
    · rw [hg]
      exact text_at id .none (valAt_not hl) hp
  | dead => rw [xget_nil]; exact text_nil id w
theorem St.usesOf (S : St w0 w B room k p b A n c ts xs) (id : Int) : Calls Try.prog 16 #[.pointer p, .int .i64 id] w fun e w' => e = .returned (.int .i64 (xget xs id).uses) ∧ w' = w := by
  cases S with
  | live g _ _ _ _ _ S =>
    obtain ⟨v, hp⟩ := S.pool
    have h := uses_any id hp
    rcases S.rel.look id with ⟨i, x, t, rfl, hx, ht, hu, hxu, hs⟩ | ⟨hl, hg⟩
    · rw [usesAt_of ht hu] at h
      rw [xget_of hx (by omega), hxu]
      exact h
    · rw [usesAt_not hl] at h
      rw [hg]
      exact h
  | dead => rw [xget_nil]; exact uses_nil id w
theorem St.get (S : St w0 w B room k p b A n c ts xs) (hk : k ≤ 100) (id : Int) : Calls Try.prog 11 #[.agg #[.bool b, .int .i64 room, .slice A n c], .int .i64 id] w fun e w' => e = .returned (.agg (xv (xget xs id)).toArray) ∧ Below w.heap.size w w' := by
  cases S with
  | live g _ _ _ _ _ S => exact rget_any true room A n c xs id w S.rd.1 (by have := S.rd.2; have := S.size; omega)
  | dead => exact rget_any false room none 0 0 [] id w (Rd.nil _ _) (by omega)
/-- a hop that is handed out is as the reference's -/
theorem St.hop (S : St w0 w B room k p b A n c ts xs) (id : Int) : Calls Try.prog 14 #[.pointer p, .int .i64 id] w fun e w' =>
    ∃ (L : Option Addr) (lc : Nat) (R : Option Addr) (rc : Nat) (ll rl : List Int), e = .returned (.tuple #[.agg #[.int .i64 (xget xs id).op, .slice L (xget xs id).ln lc, .int .i64 (xget xs id).port, .int .i64 (xget xs id).backup, .slice R (xget xs id).rn rc, .bool (xget xs id).pipe], .bool ((xget xs id).kind == 3)]) ∧
      Rd int1 1 w0 (xget xs id).L (xget xs id).ln ll ∧ Rd int1 1 w0 (xget xs id).R (xget xs id).rn rl ∧ Rd int1 1 w' L (xget xs id).ln ll ∧ Rd int1 1 w' R (xget xs id).rn rl ∧ (xget xs id).ln ≤ 20 ∧ (xget xs id).rn ≤ 20 ∧ Below w.heap.size w w' := by
  cases S with
  | live g _ _ _ _ _ S =>
    obtain ⟨v, hp⟩ := S.pool
    rcases S.rel.look id with ⟨i, x, t, rfl, hx, ht, hu, hxu, hs⟩ | ⟨hl, hg⟩
    · rw [xget_of hx (by omega)]
      have hv := valAt_of ht hu
      obtain ⟨tv, tu⟩ := t
      simp only at hs hv
      cases hs with
      | num n u =>
        refine (hop_not i (.num n) (hv.trans rfl) (by simp [Form.kind]) hp).mono fun e w' ⟨vl, vr, he, h1, h2, hb⟩ => ?_
        obtain ⟨L, lc, rfl, -, r1⟩ := Rd.of_own int1_len (by decide) h1
        obtain ⟨R, rc, rfl, -, r2⟩ := Rd.of_own int1_len (by decide) h2
        exact ⟨L, lc, R, rc, [], [], he, Rd.nil _ _, Rd.nil _ _, r1, r2, Nat.zero_le _, Nat.zero_le _, hb⟩
      | text s u =>
        refine (hop_not i (.text s) (hv.trans rfl) (by simp [Form.kind]) hp).mono fun e w' ⟨vl, vr, he, h1, h2, hb⟩ => ?_
        obtain ⟨L, lc, rfl, -, r1⟩ := Rd.of_own int1_len (by decide) h1
        obtain ⟨R, rc, rfl, -, r2⟩ := Rd.of_own int1_len (by decide) h2
        exact ⟨L, lc, R, rc, [], [], he, Rd.nil _ _, Rd.nil _ _, r1, r2, Nat.zero_le _, Nat.zero_le _, hb⟩
      | hop op L ln lc port backup R rn rc pipe u L' lc' R' rc' ll rl g1 g2 g3 g4 g5 g6 =>
        obtain ⟨L1, lc1, e1, -, r1⟩ := Rd.of_own int1_len (by decide) g5
        obtain ⟨R1, rc1, e2, -, r2⟩ := Rd.of_own int1_len (by decide) g6
        cases e1; cases e2
        refine (hop_at i op port backup L' R' ln lc' rn rc' pipe ll rl r1 r2 (by omega) (by omega) (hv.trans rfl) hp).mono fun e w' ⟨vl, vr, he, h1, h2, hb⟩ => ?_
        obtain ⟨L2, lc2, rfl, -, r3⟩ := Rd.of_own int1_len (by decide) h1
        obtain ⟨R2, rc2, rfl, -, r4⟩ := Rd.of_own int1_len (by decide) h2
        exact ⟨L2, lc2, R2, rc2, ll, rl, he, g1, g2, r3, r4, g3, g4, hb⟩
    · rw [hg]
      refine (hop_not id .none (valAt_not hl) (by decide) hp).mono fun e w' ⟨vl, vr, he, h1, h2, hb⟩ => ?_
      obtain ⟨L, lc, rfl, -, r1⟩ := Rd.of_own int1_len (by decide) h1
      obtain ⟨R, rc, rfl, -, r2⟩ := Rd.of_own int1_len (by decide) h2
      exact ⟨L, lc, R, rc, [], [], he, Rd.nil _ _, Rd.nil _ _, r1, r2, Nat.zero_le _, Nat.zero_le _, hb⟩
  | dead =>
    rw [xget_nil]
    refine (hop_nil id w).mono fun e w' ⟨vl, vr, he, h1, h2, hb⟩ => ?_
    obtain ⟨L, lc, rfl, -, r1⟩ := Rd.of_own int1_len (by decide) h1
    obtain ⟨R, rc, rfl, -, r2⟩ := Rd.of_own int1_len (by decide) h2
    exact ⟨L, lc, R, rc, [], [], he, Rd.nil _ _, Rd.nil _ _, r1, r2, Nat.zero_le _, Nat.zero_le _, hb⟩

theorem sum_same {f : Int → Form} {g : Int → XV} (h : ∀ id, (f id).kind = (g id).kind ∧ (f id).int = (g id).int) : ∀ (l : List Int) (acc : Int), sumW f acc l = sumX g acc l
  | [], _ => rfl
  | id :: l, acc => by
    simp only [sumW, sumX, (h id).1, (h id).2]
    split
    · exact sum_same h l _
    · rfl
theorem Live.form {g : Nat} (S : Live w0 w B g room A n c ts xs k) (id : Int) : ∃ f : Form, valAt ts id = f.val ∧ f.kind = (xget xs id).kind ∧ f.int = (xget xs id).int := by
  rcases S.rel.look id with ⟨i, x, t, rfl, hx, ht, hu, hxu, hs⟩ | ⟨hl, hg⟩
  · rw [xget_of hx (by omega), valAt_of ht hu]
    obtain ⟨tv, tu⟩ := t
    simp only at hs ⊢
    cases hs with
    | num n u => exact ⟨.num n, rfl, rfl, rfl⟩
    | text s u => exact ⟨.text s, rfl, rfl, rfl⟩
    | hop op L ln lc port backup R rn rc pipe u L' lc' R' rc' ll rl => exact ⟨.hop op L' ln lc' port backup R' rn rc' pipe, rfl, rfl, rfl⟩
  · rw [hg]
    exact ⟨.none, valAt_not hl, rfl, rfl⟩
theorem St.sum (S : St w0 w B room k p b A n c ts xs) (A2 : Option Addr) (n2 c2 : Nat) (ids : List Int) (hr : Rd int1 1 w A2 n2 ids) (hn : n2 ≤ 1000000) : Calls Try.prog 17 #[.pointer p, .slice A2 n2 c2] w fun e w' =>
    e = .returned (.tuple #[.int .i64 ((sumX (xget xs) 0 ids).getD 0), .bool (sumX (xget xs) 0 ids).isSome]) ∧ Below w.heap.size w w' := by
  cases S with
  | live g _ _ _ _ _ S =>
    obtain ⟨v, hp⟩ := S.pool
    have h := sum_any (fun id => Classical.choose (S.form id)) (fun id => (Classical.choose_spec (S.form id)).1) hp A2 n2 c2 ids hr hn
    rwa [sum_same (fun id => (Classical.choose_spec (S.form id)).2) ids 0] at h
  | dead =>
    have h := sum_gen (p := none) (fun _ => Form.none) (fun W id _ => value_nil id W) A2 n2 c2 ids hr hn
    rwa [sum_same (g := xget []) (fun id => by rw [xget_nil]; exact ⟨rfl, rfl⟩) ids 0] at h
theorem St.rsum (S : St w0 w B room k p b A n c ts xs) (hk : k ≤ 100) (A2 : Option Addr) (n2 c2 : Nat) (ids : List Int) (hr : Rd int1 1 w A2 n2 ids) (hn : n2 ≤ 1000000) : Calls Try.prog 18 #[.agg #[.bool b, .int .i64 room, .slice A n c], .slice A2 n2 c2] w fun e w' =>
    e = .returned (.tuple #[.int .i64 ((sumX (xget xs) 0 ids).getD 0), .bool (sumX (xget xs) 0 ids).isSome]) ∧ Below w.heap.size w w' := by
  cases S with
  | live g _ _ _ _ _ S => exact rsum_any true room A n c xs w S.rd.1 (by have := S.rd.2; have := S.size; omega) A2 n2 c2 ids hr hn
  | dead => exact rsum_any false room none 0 0 [] w (Rd.nil _ _) (by omega) A2 n2 c2 ids hr hn
end

end Go.Proofs.Ytifadjakpllpfaa
