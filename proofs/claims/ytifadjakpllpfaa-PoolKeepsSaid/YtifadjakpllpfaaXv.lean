/-
  The reference's pool: its things in memory; Len, Get.
-/
import Derived.Test.YtifadjakpllpfaaApi
namespace Go.Proofs.Ytifadjakpllpfaa
open Go.RowKit

/-- the reference's thing -/
structure XV where
  kind : Int
  int : Int
  text : ByteArray
  op : Int
  L : Option Addr
  ln : Nat
  lc : Nat
  port : Int
  backup : Int
  R : Option Addr
  rn : Nat
  rc : Nat
  pipe : Bool
  uses : Int
def xv (x : XV) : List Value := [.int .i64 x.kind, .int .i64 x.int, .string x.text, .int .i64 x.op, .slice x.L x.ln x.lc, .int .i64 x.port, .int .i64 x.backup, .slice x.R x.rn x.rc, .bool x.pipe, .int .i64 x.uses]
theorem xv_len (x : XV) : (xv x).length = 10 := rfl
def XV.zero : XV := ⟨0, 0, ByteArray.empty, 0, none, 0, 0, 0, 0, none, 0, 0, false, 0⟩
theorem xv_one (l : List XV) : ∀ u ∈ flatE xv l, u.oneCell' = true := by
  intro u hu
  obtain ⟨x, _, h⟩ := List.mem_flatMap.1 hu
  simp [xv] at h
  rcases h with rfl | rfl | rfl | rfl | rfl | rfl | rfl | rfl | rfl | rfl <;> rfl

/-- how many are used -/
def xused (xs : List XV) : Nat := xs.countP fun x => decide (x.uses > 0)

set_option maxHeartbeats 1000000 in
theorem rlen_any (b : Bool) (room : Int) (A : Option Addr) (n c : Nat) (xs : List XV) (w : World) (hr : Rd xv 10 w A n xs) (hn : n ≤ 1000) :
    Calls Try.prog 22 #[.agg #[.bool b, .int .i64 room, .slice A n c]] w fun e w' => e = .returned (.int .i64 (xused xs)) ∧ Below w.heap.size w w' := by
  have hlen := hr.1
  have HR := Lib.hid hr
  clear hr
  have hk0 : xused (xs.take 0) = 0 := rfl
  have hfin : xs.take n = xs := List.take_of_length_le (by omega)
  go_enter Try.func22, Try.ntmps22
  go_wp2
  go_loopw [3, 4] (fun u v W => ∃ k : Nat, k ≤ n ∧ u = .int .i64 (xused (xs.take k)) ∧ v = .int .i64 k ∧ Below w.heap.size w W ∧ W.cell? ⟨w.heap.size, 2, none⟩ = some (.slice A n c)) (fun _ v _ => n - (intOf v).toNat)
  case atStart => exact ⟨0, Nat.zero_le _, rfl, rfl, by go_grown, by simp⟩
  case round =>
    obtain ⟨k, hk, rfl, rfl, hb, hc⟩ := hrel
    by_cases hlt : k < n
    · obtain ⟨x, b, off, hx, hA, hcs⟩ := (HR.out.below hb).at_ hlt
      subst hA
      have hc9 : wr.cell? ⟨b, off + k * 10 + 9, none⟩ = some (.int .i64 x.uses) := hcs 9 _ rfl
      have HX := Lib.hid (take_snoc hx)
      have hle : xused (xs.take k) ≤ k := Nat.le_trans List.countP_le_length (by rw [List.length_take]; omega)
      have hsn : xused (xs.take (k + 1)) = xused (xs.take k) + if x.uses > 0 then 1 else 0 := by
        rw [HX.out]; simp only [xused, List.countP_append, List.countP_cons, List.countP_nil, decide_eq_true_eq]; omega
      have HSN := Lib.hid hsn
      clear hx hcs hsn
      generalize xused (xs.take k) = q at *
      by_cases hu : x.uses > 0
      · have hd : decide (x.uses > 0) = true := by simpa using hu
        go_wp2
        go_roundw
        case rel => exact ⟨k + 1, by omega, by rw [HSN.out, if_pos hu]; go_num, by go_num, hb, hc⟩
        case measure => simp [intOf]; omega
      · have hd : decide (x.uses > 0) = false := by simpa using hu
        go_wp2
        go_roundw
        case rel => exact ⟨k + 1, by omega, by rw [HSN.out, if_neg hu]; go_num, by go_num, hb, hc⟩
        case measure => simp [intOf]; omega
    · have hkn : n = k := by omega
      subst hkn
      have HQ := Lib.hid (show xused (xs.take n) = xused xs by rw [hfin])
      clear hfin
      generalize xused (xs.take n) = q at *
      go_wp2
      go_ret
      exact ⟨by rw [← HQ.out]; rfl, hb⟩

/-- the place of a thing that is used -/
def xlook (xs : List XV) (id : Int) : Option Nat :=
  if 0 ≤ id ∧ id < xs.length ∧ (xs.getD id.toNat XV.zero).uses ≠ 0 then some id.toNat else none
/-- a thing; one of kind 0, if there is none -/
def xget (xs : List XV) (id : Int) : XV := match xlook xs id with | some i => xs.getD i XV.zero | none => XV.zero

theorem xget_cases (xs : List XV) (id : Int) : (∃ (i : Nat) (x : XV), id = i ∧ xs[i]? = some x ∧ x.uses ≠ 0 ∧ xlook xs id = some i ∧ xget xs id = x) ∨
    (xlook xs id = none ∧ xget xs id = XV.zero ∧ (id < 0 ∨ (xs.length : Int) ≤ id ∨ ∃ (i : Nat) (x : XV), id = i ∧ xs[i]? = some x ∧ x.uses = 0)) := by
  unfold xget xlook
  by_cases h : 0 ≤ id ∧ id < xs.length ∧ (xs.getD id.toNat XV.zero).uses ≠ 0
  · rw [if_pos h]
    obtain ⟨h1, h2, h3⟩ := h
    obtain ⟨x, hx⟩ := at_lt (l := xs) rfl (show id.toNat < xs.length by omega)
    refine .inl ⟨id.toNat, x, by omega, hx, by rwa [getD_of hx] at h3, rfl, getD_of hx⟩
  · rw [if_neg h]
    refine .inr ⟨rfl, rfl, ?_⟩
    by_cases h2 : id < 0
    · exact .inl h2
    · by_cases h3 : (xs.length : Int) ≤ id
      · exact .inr (.inl h3)
      · obtain ⟨x, hx⟩ := at_lt (l := xs) rfl (show id.toNat < xs.length by omega)
        refine .inr (.inr ⟨id.toNat, x, by omega, hx, ?_⟩)
        rw [getD_of hx] at h
        by_cases h4 : x.uses = 0
        · exact h4
        · exact absurd ⟨by omega, by omega, h4⟩ h

set_option maxHeartbeats 1000000 in
theorem rget_any (b : Bool) (room : Int) (A : Option Addr) (n c : Nat) (xs : List XV) (id : Int) (w : World) (hr : Rd xv 10 w A n xs) (hn : n ≤ 1000) :
    Calls Try.prog 11 #[.agg #[.bool b, .int .i64 room, .slice A n c], .int .i64 id] w fun e w' => e = .returned (.agg (xv (xget xs id)).toArray) ∧ Below w.heap.size w w' := by
  rcases xget_cases xs id with ⟨i, x, rfl, hx, hu, -, hg⟩ | ⟨-, hg, h1 | h1 | ⟨i, x, rfl, hx, hu⟩⟩
  · rw [hg]
    have hi : i < n := by have := (List.getElem?_eq_some_iff.1 hx).1; rw [hr.1] at this; exact this
    obtain ⟨y, b', off, hy, rfl, hcs⟩ := hr.at_ hi
    obtain rfl : y = x := by rw [hy] at hx; exact Option.some.inj hx
    obtain ⟨kind, int, text, op, L, ln, lc, port, backup, R, rn, rc, pipe, uses⟩ := y
    have late : ∀ (X Y : Obj) {a : Addr} {v : Value}, w.cell? a = some v → ((w.alloc X).alloc Y).cell? a = some v := fun X Y a v h => by
      have hb : Below w.heap.size w ((w.alloc X).alloc Y) := ((Below.refl _ w).alloc (Nat.le_refl _) X).alloc (by simp) Y
      exact (hb.cell (World.block_lt_of_cell? w _ h)).trans h
    have c0 : ∀ X Y, ((w.alloc X).alloc Y).cell? ⟨b', off + i * 10, none⟩ = some _ := fun X Y => late X Y (hcs 0 _ rfl)
    have c1 : ∀ X Y, ((w.alloc X).alloc Y).cell? ⟨b', off + i * 10 + 1, none⟩ = some _ := fun X Y => late X Y (hcs 1 _ rfl)
    have c2 : ∀ X Y, ((w.alloc X).alloc Y).cell? ⟨b', off + i * 10 + 2, none⟩ = some _ := fun X Y => late X Y (hcs 2 _ rfl)
    have c3 : ∀ X Y, ((w.alloc X).alloc Y).cell? ⟨b', off + i * 10 + 3, none⟩ = some _ := fun X Y => late X Y (hcs 3 _ rfl)
    have c4 : ∀ X Y, ((w.alloc X).alloc Y).cell? ⟨b', off + i * 10 + 4, none⟩ = some _ := fun X Y => late X Y (hcs 4 _ rfl)
    have c5 : ∀ X Y, ((w.alloc X).alloc Y).cell? ⟨b', off + i * 10 + 5, none⟩ = some _ := fun X Y => late X Y (hcs 5 _ rfl)
    have c6 : ∀ X Y, ((w.alloc X).alloc Y).cell? ⟨b', off + i * 10 + 6, none⟩ = some _ := fun X Y => late X Y (hcs 6 _ rfl)
    have c7 : ∀ X Y, ((w.alloc X).alloc Y).cell? ⟨b', off + i * 10 + 7, none⟩ = some _ := fun X Y => late X Y (hcs 7 _ rfl)
    have c8 : ∀ X Y, ((w.alloc X).alloc Y).cell? ⟨b', off + i * 10 + 8, none⟩ = some _ := fun X Y => late X Y (hcs 8 _ rfl)
    have c9 : ∀ X Y, ((w.alloc X).alloc Y).cell? ⟨b', off + i * 10 + 9, none⟩ = some _ := fun X Y => late X Y (hcs 9 _ rfl)
    clear late
    have hu' : (uses == 0) = false := by simpa using hu
    have hi0 : ¬ (i : Int) < 0 := by omega
    have hi1 : ¬ n ≤ i := by omega
    unfold xv
    clear hr hx hy hcs hg hu
    go_enter Try.func11, Try.ntmps11
    go_wp2
    refine bodyPost_ret (by simp [results, Try.results11, go_sem]; try rfl) rfl ?_
    exact ⟨rfl, by go_grown⟩
  · rw [hg]
    unfold xv XV.zero
    clear hr hg
    go_enter Try.func11, Try.ntmps11
    go_wp2
    refine bodyPost_ret (by simp [results, Try.results11, go_sem]; try rfl) rfl ?_
    exact ⟨rfl, by go_grown⟩
  · rw [hg]
    rw [hr.1] at h1
    have h0 : ¬ id < 0 := by omega
    unfold xv XV.zero
    clear hr hg
    go_enter Try.func11, Try.ntmps11
    go_wp2
    refine bodyPost_ret (by simp [results, Try.results11, go_sem]; try rfl) rfl ?_
    exact ⟨rfl, by go_grown⟩
  · rw [hg]
    have hi : i < n := by have := (List.getElem?_eq_some_iff.1 hx).1; rw [hr.1] at this; exact this
    obtain ⟨y, b', off, hy, rfl, hcs⟩ := hr.at_ hi
    obtain rfl : y = x := by rw [hy] at hx; exact Option.some.inj hx
    have c9 : ∀ X Y, ((w.alloc X).alloc Y).cell? ⟨b', off + i * 10 + 9, none⟩ = some (.int .i64 0) := fun X Y => by
      have h := hcs 9 _ rfl
      rw [hu] at h
      have hb : Below w.heap.size w ((w.alloc X).alloc Y) := ((Below.refl _ w).alloc (Nat.le_refl _) X).alloc (by simp) Y
      exact (hb.cell (World.block_lt_of_cell? w _ h)).trans h
    unfold xv XV.zero
    have hi0 : ¬ (i : Int) < 0 := by omega
    have hi1 : ¬ n ≤ i := by omega
    clear hr hx hy hcs hg hu
    go_enter Try.func11, Try.ntmps11
    go_wp2
    refine bodyPost_ret (by simp [results, Try.results11, go_sem]; try rfl) rfl ?_
    exact ⟨rfl, by go_grown⟩

end Go.Proofs.Ytifadjakpllpfaa
