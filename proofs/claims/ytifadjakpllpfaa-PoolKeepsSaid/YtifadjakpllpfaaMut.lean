/-
  The pool: what changes it: New, Ref, Unref, add; and what that leaves of all other memory.
-/
import Derived.Test.YtifadjakpllpfaaRead
namespace Go.Proofs.Ytifadjakpllpfaa
open Go.RowKit

/-- a block that the pool's functions don't change: old memory, or cells of another type than the pool's two -/
def Safe (B : Nat) (w : World) (b : Nat) : Prop := b < B ∨ ∃ cs t fr, w.heap[b]? = some (.cells cs t fr) ∧ t ≠ 66 ∧ t ≠ 79

/-- what a change leaves -/
structure Mut (B : Nat) (w w' : World) : Prop where
  os : w'.os = w.os
  tape : w'.tape = w.tape
  output : w'.output = w.output
  size : w.heap.size ≤ w'.heap.size
  keep : ∀ b, b < w.heap.size → Safe B w b → w'.heap[b]? = w.heap[b]?

theorem Safe.kept {B : Nat} {w w' : World} {b : Nat} (h : Safe B w b) (k : w'.heap[b]? = w.heap[b]?) : Safe B w' b := by
  unfold Safe
  rw [k]
  exact h
theorem Mut.refl (B : Nat) (w : World) : Mut B w w := ⟨rfl, rfl, rfl, Nat.le_refl _, fun _ _ _ => rfl⟩
theorem Mut.trans {B : Nat} {a b c : World} (h : Mut B a b) (k : Mut B b c) : Mut B a c :=
  ⟨k.os.trans h.os, k.tape.trans h.tape, k.output.trans h.output, Nat.le_trans h.size k.size, fun i hi hs => (k.keep i (Nat.lt_of_lt_of_le hi h.size) (hs.kept (h.keep i hi hs))).trans (h.keep i hi hs)⟩
theorem Mut.below {B : Nat} {w w' : World} (h : Below w.heap.size w w') : Mut B w w' := ⟨h.os, h.tape, h.output, h.size, fun k hk _ => h.block k hk⟩
theorem Mut.grown {B : Nat} {w w' : World} {b : Nat} (h : w.grownBy w' (some b)) (hb : ¬ Safe B w b) : Mut B w w' :=
  ⟨h.os, h.tape, h.output, h.size, fun k hk hs => h.block k hk (by rintro ⟨⟩; exact hb hs)⟩
theorem Mut.cell {B : Nat} {w w' : World} (h : Mut B w w') {a : Addr} {v : Value} (hs : Safe B w a.block) (hc : w.cell? a = some v) : w'.cell? a = some v := by
  have hb := World.block_lt_of_cell? w _ hc
  have := h.keep _ hb hs
  unfold World.cell? at hc ⊢
  rw [this]
  exact hc
theorem Mut.lt {B : Nat} {w w' : World} (h : Mut B w w') (hB : B ≤ w.heap.size) : Below B w w' :=
  ⟨h.os, h.tape, h.output, h.size, fun k hk => h.keep k (by omega) (.inl hk)⟩

section
variable {w : World} {B g : Nat} {room cnt : Int} {v : Value} {ts : List (Value × Int)}
theorem PoolIs.unsafeG (h : PoolIs w B g room cnt v ts) : ¬ Safe B w g := by
  rintro (h1 | ⟨cs, t, fr, h1, h2, -⟩)
  · have := h.low; omega
  · rw [h.blk] at h1
    simp at h1
    exact h2 h1.2.1.symm
theorem PoolIs.unsafeB {b m c : Nat} (h : PoolIs w B g room cnt (.slice (some ⟨b, 0, none⟩) m c) ts) : ¬ Safe B w b ∧ b ≠ g ∧ m = ts.length ∧ B ≤ b := by
  rcases h.own.2 with ⟨h0, _⟩ | ⟨b', c', cur, hv, hb, hg, hn, hc, hs, htk⟩
  · cases h0
  · cases hv
    refine ⟨?_, ?_, rfl, hb⟩
    · rintro (h1 | ⟨cs, t, fr, h1, -, h2⟩)
      · omega
      · rw [hg] at h1
        simp at h1
        exact h2 h1.2.1.symm
    · rintro rfl
      rw [h.blk] at hg
      simp at hg
theorem grown_set (w : World) (g j : Nat) (u : Value) : w.grownBy (w.setCell ⟨g, j, none⟩ u) (some g) :=
  ⟨rfl, rfl, rfl, by simp, fun k _ hk => heap_setCell_other w ⟨g, j, none⟩ k u (fun e => hk (by simp [e]))⟩
/-- the count is set -/
theorem PoolIs.setCnt (h : PoolIs w B g room cnt v ts) (c' : Int) : PoolIs (w.setCell ⟨g, 1, none⟩ (.int .i64 c')) B g room c' v ts ∧ Mut B w (w.setCell ⟨g, 1, none⟩ (.int .i64 c')) := by
  refine ⟨⟨h.low, ?_, ?_, h.uses, h.one, h.len⟩, Mut.grown (grown_set w g 1 _) h.unsafeG⟩
  · rw [heap_setCell_same w g 1 _ _ _ h.blk]; rfl
  · refine ownsRow_setCell_other h.own ?_ _
    rcases own_form h.own with ⟨rfl, -⟩ | ⟨b, c, rfl, -⟩
    · simp [Value.ownBlock]
    · have := h.unsafeB.2.1
      simpa [Value.ownBlock] using this
/-- the things are set -/
theorem PoolIs.setThings {w1 : World} {v' : Value} {ts' : List (Value × Int)} (h : PoolIs w B g room cnt v ts) (hg : w.grownBy w1 v.ownBlock) (hown : w1.ownsRow B 79 2 v' ts'.length (flatE thg ts'))
    (hu : ∀ t, t ∈ ts' → 0 ≤ t.2 ∧ t.2 ≤ 100) (ho : ∀ t, t ∈ ts' → t.1.oneCell' = true) (hl : ts'.length ≤ 100) :
    PoolIs (w1.setCell ⟨g, 2, none⟩ v') B g room cnt v' ts' ∧ Mut B w (w1.setCell ⟨g, 2, none⟩ v') := by
  have hgs : g < w.heap.size := (Array.getElem?_eq_some_iff.1 h.blk).1
  have hne : v.ownBlock ≠ some g := by
    rcases own_form h.own with ⟨rfl, -⟩ | ⟨b, c, rfl, -⟩
    · simp [Value.ownBlock]
    · have := h.unsafeB.2.1
      simpa [Value.ownBlock] using this
  have hblk : w1.heap[g]? = some (.cells #[.int .i64 room, .int .i64 cnt, v] 66 (0, 0)) := by
    rw [hg.block g hgs (fun e => hne e.symm)]; exact h.blk
  have hm1 : Mut B w w1 := by
    refine ⟨hg.os, hg.tape, hg.output, hg.size, fun k hk hs => hg.block k hk fun e => ?_⟩
    rcases own_form h.own with ⟨rfl, -⟩ | ⟨b, c, rfl, -⟩
    · simp [Value.ownBlock] at e
    · have : k = b := by simpa [Value.ownBlock] using e
      subst this
      exact h.unsafeB.1 hs
  have hns : ¬ Safe B w1 g := by
    rintro (h1 | ⟨cs, t, fr, h1, h2, -⟩)
    · have := h.low; omega
    · rw [hblk] at h1
      simp at h1
      exact h2 h1.2.1.symm
  refine ⟨⟨h.low, ?_, ?_, hu, ho, hl⟩, hm1.trans (Mut.grown (grown_set w1 g 2 _) hns)⟩
  · rw [heap_setCell_same w1 g 2 _ _ _ hblk]; rfl
  · refine ownsRow_setCell_other hown ?_ _
    rcases hown.2 with ⟨rfl, -⟩ | ⟨b, c, cur, rfl, hb, hg', -⟩
    · simp [Value.ownBlock]
    · have : b ≠ g := by
        rintro rfl
        rw [hblk] at hg'
        simp at hg'
      simpa [Value.ownBlock] using this
theorem oneCell_grown {b j : Nat} (h : ¬ Safe B w b) (u : Value) : ¬ Safe B (w.setCell ⟨b, j, none⟩ u) b := by
  rintro (h1 | ⟨cs, t, fr, h1, h2, h3⟩)
  · exact h (.inl h1)
  · apply h
    simp only [World.setCell, Array.getElem?_modify, if_pos] at h1
    cases hb : w.heap[b]? with
    | none => rw [hb] at h1; simp at h1
    | some o =>
      rw [hb] at h1
      cases o <;> simp at h1
      case cells cs' t' fr' =>
        obtain ⟨-, rfl, -⟩ := h1
        exact .inr ⟨cs', t', fr', hb, h2, h3⟩
/-- a thing is set -/
theorem PoolIs.setThing {b m c i : Nat} (h : PoolIs w B g room cnt (.slice (some ⟨b, 0, none⟩) m c) ts) (hi : i < ts.length) (x : Value) (u : Int) (hu : 0 ≤ u ∧ u ≤ 100) (hx : x.oneCell' = true) :
    PoolIs ((w.setCell ⟨b, i * 2, none⟩ x).setCell ⟨b, i * 2 + 1, none⟩ (.int .i64 u)) B g room cnt (.slice (some ⟨b, 0, none⟩) m c) (ts.set i (x, u)) ∧ Mut B w ((w.setCell ⟨b, i * 2, none⟩ x).setCell ⟨b, i * 2 + 1, none⟩ (.int .i64 u)) := by
  obtain ⟨hs, hne, rfl, -⟩ := h.unsafeB
  have h1 := h.own.stored (i * 2) x
  have h2 := h1.1.stored (i * 2 + 1) (.int .i64 u)
  refine ⟨⟨h.low, ?_, ?_, ?_, ?_, by rw [List.length_set]; exact h.len⟩, (Mut.grown h1.2 hs).trans (Mut.grown h2.2 (oneCell_grown hs x))⟩
  · rw [heap_setCell_other _ _ _ _ (fun e => hne (by simpa using e.symm)), heap_setCell_other _ _ _ _ (fun e => hne (by simpa using e.symm))]
    exact h.blk
  · rw [flatE_set thg_len _ _ _ hi, List.length_set]
    exact h2.1
  · intro t ht
    rcases List.mem_or_eq_of_mem_set ht with h' | rfl
    · exact h.uses t h'
    · exact hu
  · intro t ht
    rcases List.mem_or_eq_of_mem_set ht with h' | rfl
    · exact h.one t h'
    · exact hx
/-- how often a thing is used is set -/
theorem PoolIs.setUses {b m c i : Nat} {t : Value × Int} (h : PoolIs w B g room cnt (.slice (some ⟨b, 0, none⟩) m c) ts) (ht : ts[i]? = some t) (u : Int) (hu : 0 ≤ u ∧ u ≤ 100) :
    PoolIs (w.setCell ⟨b, i * 2 + 1, none⟩ (.int .i64 u)) B g room cnt (.slice (some ⟨b, 0, none⟩) m c) (ts.set i (t.1, u)) ∧ Mut B w (w.setCell ⟨b, i * 2 + 1, none⟩ (.int .i64 u)) := by
  obtain ⟨hs, hne, rfl, -⟩ := h.unsafeB
  have hi := (List.getElem?_eq_some_iff.1 ht).1
  have h2 := h.own.stored (i * 2 + 1) (.int .i64 u)
  have hf : (flatE thg ts).set (i * 2) t.1 = flatE thg ts := by
    apply List.ext_getElem?
    intro j
    rw [List.getElem?_set]
    split
    · rename_i hj
      subst hj
      have := flatE_at thg_len ht (j := 0) (by omega)
      rw [Nat.add_zero] at this
      rw [this]
      split
      · rfl
      · rename_i hlt
        rw [List.getElem?_eq_none (by omega)] at this
        exact this
    · rfl
  refine ⟨⟨h.low, ?_, ?_, ?_, ?_, by rw [List.length_set]; exact h.len⟩, Mut.grown h2.2 hs⟩
  · rw [heap_setCell_other _ _ _ _ (fun e => hne (by simpa using e.symm))]
    exact h.blk
  · rw [flatE_set thg_len _ _ _ hi, List.length_set]
    show World.ownsRow _ _ _ _ _ _ (((flatE thg ts).set (i * 2) t.1).set (i * 2 + 1) (.int .i64 u))
    rw [hf]
    exact h2.1
  · intro t' ht'
    rcases List.mem_or_eq_of_mem_set ht' with h' | rfl
    · exact h.uses t' h'
    · exact hu
  · intro t' ht'
    rcases List.mem_or_eq_of_mem_set ht' with h' | rfl
    · exact h.one t' h'
    · exact h.one t (List.mem_of_getElem? ht)
end

theorem used_set {ts : List (Value × Int)} {i : Nat} {t t' : Value × Int} (ht : ts[i]? = some t) :
    used (ts.set i t') + (if t.2 ≠ 0 then 1 else 0) = used ts + (if t'.2 ≠ 0 then 1 else 0) := by
  induction ts generalizing i with
  | nil => simp at ht
  | cons y ts ih =>
    cases i with
    | zero =>
      simp at ht
      subst ht
      simp only [used, List.set_cons_zero, List.countP_cons, decide_eq_true_eq]
      omega
    | succ i =>
      have := ih (i := i) (by simpa using ht)
      simp only [used, List.set_cons_succ, List.countP_cons, decide_eq_true_eq] at this ⊢
      omega

set_option maxHeartbeats 1000000 in
theorem ref_nil (id : Int) (w : World) : Calls Try.prog 20 #[.pointer none, .int .i64 id] w fun e w' => e = .returned (.int .i64 1) ∧ w' = w := by
  go_enter Try.func20, Try.ntmps20
  go_wp2
  go_ret
  exact ⟨rfl, rfl⟩

set_option maxHeartbeats 1000000 in
theorem ref_none {w : World} {B g : Nat} {room : Int} {v : Value} {ts : List (Value × Int)} {id : Int} (h : PoolAt w B g room v ts) (hl : look ts id = none) :
    Calls Try.prog 20 #[.pointer (some ⟨g, 0, none⟩), .int .i64 id] w fun e w' => e = .returned (.int .i64 31) ∧ w' = w := by
  have HG := Lib.hid (get_none h hl)
  clear h hl
  go_enter Try.func20, Try.ntmps20
  go_wp2_with (go_at_call 32; refine (HG.out).mono ?_; rintro e w1 ⟨rfl, rfl⟩)
  go_ret
  exact ⟨rfl, rfl⟩

set_option maxHeartbeats 1000000 in
theorem ref_some {w : World} {B g : Nat} {room : Int} {v : Value} {ts : List (Value × Int)} {i : Nat} {t : Value × Int} (h : PoolAt w B g room v ts) (ht : ts[i]? = some t) (hu : t.2 ≠ 0) (h99 : t.2 ≤ 99) :
    Calls Try.prog 20 #[.pointer (some ⟨g, 0, none⟩), .int .i64 i] w fun e w' => e = .returned (.int .i64 0) ∧ PoolAt w' B g room v (ts.set i (t.1, t.2 + 1)) ∧ Mut B w w' := by
  obtain ⟨b, c, rfl, hnc, hi, -, hc0, hc1⟩ := h.thing ht
  have hf : w.frozen? ⟨b, i * 2 + 1, none⟩ = false := h.own.frozenAt _
  have HG := Lib.hid (get_some h ht hu)
  have h0 := (h.uses t (List.mem_of_getElem? ht)).1
  have HS := Lib.hid (h.setUses ht (t.2 + 1) (by omega))
  have hus := used_set (t' := (t.1, t.2 + 1)) ht
  rw [if_pos hu, if_pos (by show t.2 + 1 ≠ 0; omega)] at hus
  have HU := Lib.hid (show used (ts.set i (t.1, t.2 + 1)) = used ts by omega)
  clear hus
  obtain ⟨x, u⟩ := t
  change u ≤ 99 at h99
  change 0 ≤ u at h0
  change w.cell? _ = some (.int .i64 u) at hc1
  clear h ht hu hc0 hi
  unfold PoolAt
  rw [HU.out]
  go_enter Try.func20, Try.ntmps20
  go_wp2_with (go_at_call 32; refine (HG.out).mono ?_; rintro e w1 ⟨rfl, rfl⟩)
  go_ret
  exact ⟨rfl, HS.out⟩

set_option maxHeartbeats 1000000 in
theorem unref_nil (id : Int) (w : World) : Calls Try.prog 23 #[.pointer none, .int .i64 id] w fun e w' => e = .returned (.tuple #[.bool false, .int .i64 1]) ∧ w' = w := by
  go_enter Try.func23, Try.ntmps23
  go_wp2
  go_ret2
  exact ⟨rfl, rfl⟩

set_option maxHeartbeats 1000000 in
theorem unref_none {w : World} {B g : Nat} {room : Int} {v : Value} {ts : List (Value × Int)} {id : Int} (h : PoolAt w B g room v ts) (hl : look ts id = none) :
    Calls Try.prog 23 #[.pointer (some ⟨g, 0, none⟩), .int .i64 id] w fun e w' => e = .returned (.tuple #[.bool false, .int .i64 31]) ∧ w' = w := by
  have HG := Lib.hid (get_none h hl)
  clear h hl
  go_enter Try.func23, Try.ntmps23
  go_wp2_with (go_at_call 32; refine (HG.out).mono ?_; rintro e w1 ⟨rfl, rfl⟩)
  go_ret2
  exact ⟨rfl, rfl⟩

set_option maxHeartbeats 1000000 in
theorem unref_more {w : World} {B g : Nat} {room : Int} {v : Value} {ts : List (Value × Int)} {i : Nat} {t : Value × Int} (h : PoolAt w B g room v ts) (ht : ts[i]? = some t) (hu : 1 < t.2) :
    Calls Try.prog 23 #[.pointer (some ⟨g, 0, none⟩), .int .i64 i] w fun e w' => e = .returned (.tuple #[.bool false, .int .i64 0]) ∧ PoolAt w' B g room v (ts.set i (t.1, t.2 - 1)) ∧ Mut B w w' := by
  obtain ⟨b, c, rfl, hnc, hi, -, hc0, hc1⟩ := h.thing ht
  have hf : w.frozen? ⟨b, i * 2 + 1, none⟩ = false := h.own.frozenAt _
  have HG := Lib.hid (get_some h ht (by omega))
  have h0 := (h.uses t (List.mem_of_getElem? ht)).2
  have HS := Lib.hid (h.setUses ht (t.2 - 1) (by omega))
  have hus := used_set (t' := (t.1, t.2 - 1)) ht
  rw [if_pos (by omega), if_pos (by show t.2 - 1 ≠ 0; omega)] at hus
  have HU := Lib.hid (show used (ts.set i (t.1, t.2 - 1)) = used ts by omega)
  clear hus
  obtain ⟨x, u⟩ := t
  change 1 < u at hu
  change u ≤ 100 at h0
  change w.cell? _ = some (.int .i64 u) at hc1
  have hd : decide (u - 1 > 0) = true := by simp; omega
  clear h ht hc0 hi
  unfold PoolAt
  rw [HU.out]
  go_enter Try.func23, Try.ntmps23
  go_wp2_with (go_at_call 32; refine (HG.out).mono ?_; rintro e w1 ⟨rfl, rfl⟩)
  go_ret2
  exact ⟨rfl, HS.out⟩

set_option maxHeartbeats 1000000 in
theorem unref_last {w : World} {B g : Nat} {room : Int} {v : Value} {ts : List (Value × Int)} {i : Nat} {t : Value × Int} (h : PoolAt w B g room v ts) (ht : ts[i]? = some t) (hu : t.2 = 1) :
    Calls Try.prog 23 #[.pointer (some ⟨g, 0, none⟩), .int .i64 i] w fun e w' => e = .returned (.tuple #[.bool true, .int .i64 0]) ∧ PoolAt w' B g room v (ts.set i (.nilIface, 0)) ∧ Mut B w w' := by
  obtain ⟨b, c, rfl, hnc, hi, hbg, hc0, hc1⟩ := h.thing ht
  have hus := used_set (t' := (.nilIface, 0)) ht
  rw [if_pos (by omega), if_neg (by simp)] at hus
  obtain ⟨k, hk⟩ : ∃ k, used ts = k + 1 := ⟨used ts - 1, by omega⟩
  have hk100 : used ts ≤ 100 := Nat.le_trans List.countP_le_length h.len
  have HU := Lib.hid (show used (ts.set i (.nilIface, 0)) = k by omega)
  have HG := Lib.hid (get_some h ht (by omega))
  have h1 := h.setUses ht 0 (by omega)
  have h2 := h1.1.setThing (i := i) (by rw [List.length_set]; exact hi) .nilIface 0 (by omega) rfl
  have h3 := h2.1.setCnt k
  have hc1' := h2.1.c1
  have hf3 := h2.1.fr 1
  rw [List.set_set] at h3 h2
  have HS := Lib.hid (And.intro h3.1 ((h1.2.trans h2.2).trans h3.2))
  have hf : w.frozen? ⟨b, i * 2 + 1, none⟩ = false := h.own.frozenAt _
  have hf0 : w.frozen? ⟨b, i * 2, none⟩ = false := h.own.frozenAt _
  have hpc1 := h.c1
  have hpf := h.fr 1
  rw [hk] at hpc1 hk100
  obtain ⟨x, u⟩ := t
  obtain rfl : u = 1 := hu
  clear h ht hi h1 h2 h3 hk hus hc1' hf3
  change w.cell? _ = some x at hc0
  change w.cell? _ = some (.int .i64 1) at hc1
  unfold PoolAt
  rw [HU.out]
  go_enter Try.func23, Try.ntmps23
  go_wp2_with (go_at_call 32; refine (HG.out).mono ?_; rintro e w1 ⟨rfl, rfl⟩)
  go_ret2
  exact ⟨rfl, HS.out⟩

set_option maxHeartbeats 1000000 in
theorem new_any (room : Int) (w : World) (h1 : 1 ≤ room) (h2 : room ≤ 65536) :
    Calls Try.prog 8 #[.int .i64 room] w fun e w' => e = .returned (.pointer (some ⟨w.heap.size, 0, none⟩)) ∧ PoolAt w' w.heap.size w.heap.size room (.slice none 0 0) [] ∧ Below w.heap.size w w' := by
  go_enter Try.func8, Try.ntmps8
  go_wp2
  go_ret
  refine ⟨rfl, ⟨Nat.le_refl _, heap_alloc_new _ _, World.ownsRow_nil _ _ _ _, by simp, by simp, by simp⟩, by go_grown⟩

set_option maxHeartbeats 1000000 in
theorem new_not (room : Int) (w : World) (h : room < 1 ∨ 65536 < room) :
    Calls Try.prog 8 #[.int .i64 room] w fun e w' => e = .returned (.pointer none) ∧ w' = w := by
  rcases h with h | h
  · go_enter Try.func8, Try.ntmps8
    go_wp2
    go_ret
    exact ⟨rfl, rfl⟩
  · have h0 : ¬ room < 1 := by omega
    go_enter Try.func8, Try.ntmps8
    go_wp2
    go_ret
    exact ⟨rfl, rfl⟩

end Go.Proofs.Ytifadjakpllpfaa
