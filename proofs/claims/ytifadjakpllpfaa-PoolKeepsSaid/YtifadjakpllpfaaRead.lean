/-
  The pool: what lies in memory; the functions that only look: get, value, Uses, Int, Text, Len.
-/
import Derived.Test.YtifadjakpllpfaaMem
namespace Go.Proofs.Ytifadjakpllpfaa
open Go.RowKit

/-- a thing's cells: what it is, and how often it is used -/
def thg (t : Value × Int) : List Value := [t.1, .int .i64 t.2]
theorem thg_len (t : Value × Int) : (thg t).length = 2 := rfl
/-- how many things are used -/
def used (ts : List (Value × Int)) : Nat := ts.countP fun t => decide (t.2 ≠ 0)

/-- a pool in memory, at block g; cnt: what its count says -/
structure PoolIs (w : World) (B g : Nat) (room cnt : Int) (v : Value) (ts : List (Value × Int)) : Prop where
  low : B ≤ g
  blk : w.heap[g]? = some (.cells #[.int .i64 room, .int .i64 cnt, v] 66 (0, 0))
  own : w.ownsRow B 79 2 v ts.length (flatE thg ts)
  uses : ∀ t, t ∈ ts → 0 ≤ t.2 ∧ t.2 ≤ 100
  one : ∀ t, t ∈ ts → t.1.oneCell' = true
  len : ts.length ≤ 100
/-- a pool in memory whose count is right -/
abbrev PoolAt (w : World) (B g : Nat) (room : Int) (v : Value) (ts : List (Value × Int)) : Prop := PoolIs w B g room (used ts) v ts

section
variable {w : World} {B g : Nat} {room cnt : Int} {v : Value} {ts : List (Value × Int)}
theorem PoolIs.c0 (h : PoolIs w B g room cnt v ts) : w.cell? ⟨g, 0, none⟩ = some (.int .i64 room) := by rw [cell_of_row w g 0 _ _ (0, 0) h.blk]; rfl
theorem PoolIs.c1 (h : PoolIs w B g room cnt v ts) : w.cell? ⟨g, 1, none⟩ = some (.int .i64 cnt) := by rw [cell_of_row w g 1 _ _ (0, 0) h.blk]; rfl
theorem PoolIs.c2 (h : PoolIs w B g room cnt v ts) : w.cell? ⟨g, 2, none⟩ = some v := by rw [cell_of_row w g 2 _ _ (0, 0) h.blk]; rfl
theorem PoolIs.fr (h : PoolIs w B g room cnt v ts) (j : Nat) : w.frozen? ⟨g, j, none⟩ = false := frozen_of_row w g j _ _ h.blk
/-- the thing at a place -/
theorem PoolIs.thing (h : PoolIs w B g room cnt v ts) {i : Nat} {t : Value × Int} (ht : ts[i]? = some t) :
    ∃ b c, v = .slice (some ⟨b, 0, none⟩) ts.length c ∧ ts.length ≤ c ∧ i < ts.length ∧ b ≠ g ∧ w.cell? ⟨b, i * 2, none⟩ = some t.1 ∧ w.cell? ⟨b, i * 2 + 1, none⟩ = some (.int .i64 t.2) := by
  have hi := (List.getElem?_eq_some_iff.1 ht).1
  rcases h.own.2 with ⟨_, h0⟩ | ⟨b, c, cur, hv, hb, hg, hn, hc, hs, htk⟩
  · omega
  · refine ⟨b, c, hv, hn, hi, ?_, ?_, ?_⟩
    · rintro rfl
      rw [h.blk] at hg
      simp at hg
    · have hown := h.own
      rw [hv] at hown
      have := hown.cellAt (i * 2) (by omega)
      rw [this, show i * 2 = i * 2 + 0 from rfl, flatE_at thg_len ht (by omega)]
      rfl
    · have hown := h.own
      rw [hv] at hown
      have := hown.cellAt (i * 2 + 1) (by omega)
      rw [this, flatE_at thg_len ht (by omega)]
      rfl
end

/-- the place of a thing that is there -/
def look (ts : List (Value × Int)) (id : Int) : Option Nat :=
  if 0 ≤ id ∧ id < ts.length ∧ (ts.getD id.toNat (.nilIface, 0)).2 ≠ 0 then some id.toNat else none

theorem look_some {ts : List (Value × Int)} {id : Int} {i : Nat} (h : look ts id = some i) : id = i ∧ ∃ t, ts[i]? = some t ∧ t.2 ≠ 0 := by
  unfold look at h
  split at h
  · rename_i h1
    obtain ⟨h1, h2, h3⟩ := h1
    injection h with h
    subst h
    obtain ⟨t, ht⟩ := at_lt (l := ts) rfl (show id.toNat < ts.length by omega)
    rw [getD_of ht] at h3
    exact ⟨by omega, t, ht, h3⟩
  · cases h
theorem look_none {ts : List (Value × Int)} {id : Int} (h : look ts id = none) : id < 0 ∨ (ts.length : Int) ≤ id ∨ ∃ (i : Nat) (t : Value × Int), id = i ∧ ts[i]? = some t ∧ t.2 = 0 := by
  unfold look at h
  split at h
  · cases h
  · rename_i h1
    by_cases h2 : id < 0
    · exact .inl h2
    · by_cases h3 : (ts.length : Int) ≤ id
      · exact .inr (.inl h3)
      · obtain ⟨t, ht⟩ := at_lt (l := ts) rfl (show id.toNat < ts.length by omega)
        refine .inr (.inr ⟨id.toNat, t, by omega, ht, ?_⟩)
        rw [getD_of ht] at h1
        by_cases h4 : t.2 = 0
        · exact h4
        · exact absurd ⟨by omega, by omega, h4⟩ h1
theorem look_of {ts : List (Value × Int)} {i : Nat} {t : Value × Int} (ht : ts[i]? = some t) (h : t.2 ≠ 0) : look ts i = some i := by
  have hi := (List.getElem?_eq_some_iff.1 ht).1
  unfold look
  rw [if_pos ⟨by omega, by omega, by rw [show ((i : Int).toNat) = i by omega, getD_of ht]; exact h⟩]
  simp

set_option maxHeartbeats 1000000 in
theorem get_none {w : World} {B g : Nat} {room : Int} {v : Value} {ts : List (Value × Int)} {id : Int} (h : PoolAt w B g room v ts) (hl : look ts id = none) :
    Calls Try.prog 32 #[.pointer (some ⟨g, 0, none⟩), .int .i64 id] w fun e w' => e = .returned (.pointer none) ∧ w' = w := by
  have c2 := h.c2
  have hlen := h.len
  obtain ⟨A, c, rfl, hnc, -⟩ := Rd.of_own thg_len (by decide) h.own
  rcases look_none hl with h1 | h1 | ⟨i, t, rfl, ht, h2⟩
  · go_enter Try.func32, Try.ntmps32
    go_wp2
    go_ret
    exact ⟨rfl, rfl⟩
  · have h0 : ¬ id < 0 := by omega
    go_enter Try.func32, Try.ntmps32
    go_wp2
    go_ret
    exact ⟨rfl, rfl⟩
  · obtain ⟨b, c', hv, -, hi, -, hc0, hc1⟩ := h.thing ht
    obtain ⟨x, u⟩ := t
    obtain rfl : u = 0 := h2
    injection hv with hA hn hc
    subst hA
    generalize ts.length = n at *
    have HT := Lib.hid ht
    have HP := Lib.hid h
    clear ht h hl
    go_enter Try.func32, Try.ntmps32
    go_wp2
    go_ret
    exact ⟨rfl, rfl⟩

set_option maxHeartbeats 1000000 in
theorem get_some {w : World} {B g : Nat} {room : Int} {b m c : Nat} {ts : List (Value × Int)} {i : Nat} {t : Value × Int} (h : PoolAt w B g room (.slice (some ⟨b, 0, none⟩) m c) ts) (ht : ts[i]? = some t) (hu : t.2 ≠ 0) :
    Calls Try.prog 32 #[.pointer (some ⟨g, 0, none⟩), .int .i64 i] w fun e w' => e = .returned (.pointer (some ⟨b, i * 2, none⟩)) ∧ w' = w := by
  have c2 := h.c2
  have hlen := h.len
  obtain ⟨b, c, hv, hnc, hi, -, hc0, hc1⟩ := h.thing ht
  cases hv
  obtain ⟨x, u⟩ := t
  have hu' : (u == 0) = false := by simpa using hu
  generalize ts.length = n at *
  have HT := Lib.hid ht
  have HP := Lib.hid h
  have hi0 : ¬ (i : Int) < 0 := by omega
  have hi1 : ¬ n ≤ i := by omega
  clear ht h hu
  go_enter Try.func32, Try.ntmps32
  go_wp2
  go_ret
  exact ⟨rfl, rfl⟩

/-- what is at a number: the thing's value, or none -/
def valAt (ts : List (Value × Int)) (id : Int) : Value := match look ts id with | some i => (ts.getD i (.nilIface, 0)).1 | none => .nilIface
def usesAt (ts : List (Value × Int)) (id : Int) : Int := match look ts id with | some i => (ts.getD i (.nilIface, 0)).2 | none => 0

set_option maxHeartbeats 1000000 in
theorem value_any {w : World} {B g : Nat} {room : Int} {v : Value} {ts : List (Value × Int)} (id : Int) (h : PoolAt w B g room v ts) :
    Calls Try.prog 29 #[.pointer (some ⟨g, 0, none⟩), .int .i64 id] w fun e w' => e = .returned (valAt ts id) ∧ w' = w := by
  unfold valAt
  cases hl : look ts id with
  | none =>
    have HG := Lib.hid (get_none h hl)
    clear h hl
    go_enter Try.func29, Try.ntmps29
    go_wp2_with (go_at_call 32; refine (HG.out).mono ?_; rintro e w1 ⟨rfl, rfl⟩)
    go_ret
    exact ⟨rfl, rfl⟩
  | some i =>
    obtain ⟨rfl, t, ht, hu⟩ := look_some hl
    obtain ⟨b, c, rfl, hnc, hi, -, hc0, hc1⟩ := h.thing ht
    have HG := Lib.hid (get_some h ht hu)
    have hq : (ts.getD i (.nilIface, 0)).1 = t.1 := by rw [getD_of ht]
    rw [show (match some i with | some i => (ts.getD i (Value.nilIface, 0)).1 | none => Value.nilIface) = t.1 from hq]
    obtain ⟨x, u⟩ := t
    clear h hl hc1 hq ht hu hi
    go_enter Try.func29, Try.ntmps29
    go_wp2_with (go_at_call 32; refine (HG.out).mono ?_; rintro e w1 ⟨rfl, rfl⟩)
    go_ret
    exact ⟨rfl, rfl⟩

set_option maxHeartbeats 1000000 in
theorem uses_any {w : World} {B g : Nat} {room : Int} {v : Value} {ts : List (Value × Int)} (id : Int) (h : PoolAt w B g room v ts) :
    Calls Try.prog 16 #[.pointer (some ⟨g, 0, none⟩), .int .i64 id] w fun e w' => e = .returned (.int .i64 (usesAt ts id)) ∧ w' = w := by
  unfold usesAt
  cases hl : look ts id with
  | none =>
    have HG := Lib.hid (get_none h hl)
    clear h hl
    go_enter Try.func16, Try.ntmps16
    go_wp2_with (go_at_call 32; refine (HG.out).mono ?_; rintro e w1 ⟨rfl, rfl⟩)
    go_ret
    exact ⟨rfl, rfl⟩
  | some i =>
    obtain ⟨rfl, t, ht, hu⟩ := look_some hl
    obtain ⟨b, c, rfl, hnc, hi, -, hc0, hc1⟩ := h.thing ht
    have HG := Lib.hid (get_some h ht hu)
    have hq : (ts.getD i (.nilIface, 0)).2 = t.2 := by rw [getD_of ht]
    rw [show (match some i with | some i => (ts.getD i (Value.nilIface, 0)).2 | none => 0) = t.2 from hq]
    obtain ⟨x, u⟩ := t
    clear h hl hc0 hq ht hu hi
    go_enter Try.func16, Try.ntmps16
    go_wp2_with (go_at_call 32; refine (HG.out).mono ?_; rintro e w1 ⟨rfl, rfl⟩)
    go_ret
    exact ⟨rfl, rfl⟩

set_option maxHeartbeats 1000000 in
theorem len_any {w : World} {B g : Nat} {room : Int} {v : Value} {ts : List (Value × Int)} (h : PoolAt w B g room v ts) :
    Calls Try.prog 21 #[.pointer (some ⟨g, 0, none⟩)] w fun e w' => e = .returned (.int .i64 (used ts)) ∧ w' = w := by
  have c1 := h.c1
  generalize used ts = n at *
  clear h
  go_enter Try.func21, Try.ntmps21
  go_wp2
  go_ret
  exact ⟨rfl, rfl⟩

/-- no pool: all that look find nothing -/
theorem get_nil (id : Int) (w : World) : Calls Try.prog 32 #[.pointer none, .int .i64 id] w fun e w' => e = .returned (.pointer none) ∧ w' = w := by
  go_enter Try.func32, Try.ntmps32
  go_wp2
  go_ret
  exact ⟨rfl, rfl⟩
theorem value_nil (id : Int) (w : World) : Calls Try.prog 29 #[.pointer none, .int .i64 id] w fun e w' => e = .returned .nilIface ∧ w' = w := by
  go_enter Try.func29, Try.ntmps29
  go_wp2_with (go_at_call 32; refine (get_nil id w).mono ?_; rintro e w1 ⟨rfl, rfl⟩)
  go_ret
  exact ⟨rfl, rfl⟩
theorem uses_nil (id : Int) (w : World) : Calls Try.prog 16 #[.pointer none, .int .i64 id] w fun e w' => e = .returned (.int .i64 0) ∧ w' = w := by
  go_enter Try.func16, Try.ntmps16
  go_wp2_with (go_at_call 32; refine (get_nil id w).mono ?_; rintro e w1 ⟨rfl, rfl⟩)
  go_ret
  exact ⟨rfl, rfl⟩
theorem len_nil (w : World) : Calls Try.prog 21 #[.pointer none] w fun e w' => e = .returned (.int .i64 0) ∧ w' = w := by
  go_enter Try.func21, Try.ntmps21
  go_wp2
  go_ret
  exact ⟨rfl, rfl⟩

end Go.Proofs.Ytifadjakpllpfaa
