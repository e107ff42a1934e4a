/-
  The pool and the reference's pool, side by side: what holds of both, and each step of both.
-/
import Derived.Test.YtifadjakpllpfaaRefs
import Derived.Test.YtifadjakpllpfaaSum
import Derived.Test.YtifadjakpllpfaaRs
import Derived.Test.YtifadjakpllpfaaHs
namespace Go.Proofs.Ytifadjakpllpfaa
open Go.RowKit

/-- a thing of the reference, and of the pool: w0 is where the arguments lie -/
inductive Same (w0 w : World) (B : Nat) : XV → Value → Prop where
  | num (n u : Int) : Same w0 w B ⟨1, n, ByteArray.empty, 0, none, 0, 0, 0, 0, none, 0, 0, false, u⟩ (Form.num n).val
  | text (s : ByteArray) (u : Int) : Same w0 w B ⟨2, 0, s, 0, none, 0, 0, 0, 0, none, 0, 0, false, u⟩ (Form.text s).val
  | hop (op : Int) (L : Option Addr) (ln lc : Nat) (port backup : Int) (R : Option Addr) (rn rc : Nat) (pipe : Bool) (u : Int) (L' : Option Addr) (lc' : Nat) (R' : Option Addr) (rc' : Nat) (ll rl : List Int) :
      Rd int1 1 w0 L ln ll → Rd int1 1 w0 R rn rl → ln ≤ 20 → rn ≤ 20 → w.ownsRow B 3 1 (.slice L' ln lc') ln (flatE int1 ll) → w.ownsRow B 3 1 (.slice R' rn rc') rn (flatE int1 rl) →
      Same w0 w B ⟨3, 0, ByteArray.empty, op, L, ln, lc, port, backup, R, rn, rc, pipe, u⟩ (Form.hop op L' ln lc' port backup R' rn rc' pipe).val

/-- all but the reference's pools' boxes stays -/
def Ext (w w' : World) : Prop := ∀ (k : Nat) (cs : Array Value) (t : TypeId) (fr : Nat × Nat), w.heap[k]? = some (.cells cs t fr) → t ≠ 30 → w'.heap[k]? = some (.cells cs t fr)
theorem Ext.refl (w : World) : Ext w w := fun _ _ _ _ h _ => h
theorem Ext.trans {a b c : World} (h : Ext a b) (k : Ext b c) : Ext a c := fun i cs t fr hi ht => k i cs t fr (h i cs t fr hi ht) ht
theorem Ext.below {w w' : World} (h : Below w.heap.size w w') : Ext w w' := fun k _ _ _ hk _ => (h.block k (Array.getElem?_eq_some_iff.1 hk).1).trans hk
theorem Ext.setP {w : World} {h j : Nat} {cs0 : Array Value} {fr0 : Nat × Nat} (hh : w.heap[h]? = some (.cells cs0 30 fr0)) (u : Value) : Ext w (w.setCell ⟨h, j, none⟩ u) := fun k cs t fr hk ht => by
  rw [heap_setCell_other w _ k u (by rintro rfl; rw [hh] at hk; simp at hk; exact ht hk.2.1.symm)]
  exact hk
theorem own_ext {w w' : World} {base n size : Nat} {e : TypeId} {v : Value} {xs : List Value} (h : w.ownsRow base e size v n xs) (he : e ≠ 30) (hx : Ext w w') : w'.ownsRow base e size v n xs := by
  refine ⟨h.1, ?_⟩
  rcases h.2 with h0 | ⟨g, cap, cur, hv, hb, hg, r⟩
  · exact .inl h0
  · exact .inr ⟨g, cap, cur, hv, hb, hx _ _ _ _ hg he, r⟩
theorem PoolIs.ext {w w' : World} {B g : Nat} {room cnt : Int} {v : Value} {ts : List (Value × Int)} (h : PoolIs w B g room cnt v ts) (hx : Ext w w') : PoolIs w' B g room cnt v ts :=
  ⟨h.low, hx _ _ _ _ h.blk (by decide), own_ext h.own (by decide) hx, h.uses, h.one, h.len⟩
theorem Same.ext {w0 w w' : World} {B : Nat} {x : XV} {v : Value} (h : Same w0 w B x v) (hx : Ext w w') : Same w0 w' B x v := by
  cases h with
  | num n u => exact .num n u
  | text s u => exact .text s u
  | hop op L ln lc port backup R rn rc pipe u L' lc' R' rc' ll rl h1 h2 h3 h4 h5 h6 => exact .hop op L ln lc port backup R rn rc pipe u L' lc' R' rc' ll rl h1 h2 h3 h4 (own_ext h5 (by decide) hx) (own_ext h6 (by decide) hx)
theorem Same.mut {w0 w w' : World} {B : Nat} {x : XV} {v : Value} (h : Same w0 w B x v) (hx : Mut B w w') : Same w0 w' B x v := by
  cases h with
  | num n u => exact .num n u
  | text s u => exact .text s u
  | hop op L ln lc port backup R rn rc pipe u L' lc' R' rc' ll rl h1 h2 h3 h4 h5 h6 => exact .hop op L ln lc port backup R rn rc pipe u L' lc' R' rc' ll rl h1 h2 h3 h4 (own_mut h5 (by decide) (by decide) hx) (own_mut h6 (by decide) (by decide) hx)
theorem Same.used {w0 w : World} {B : Nat} {x : XV} {v : Value} (h : Same w0 w B x v) (u : Int) : Same w0 w B { x with uses := u } v := by
  cases h with
  | num n => exact .num n u
  | text s => exact .text s u
  | hop op L ln lc port backup R rn rc pipe _ L' lc' R' rc' ll rl h1 h2 h3 h4 h5 h6 => exact .hop op L ln lc port backup R rn rc pipe u L' lc' R' rc' ll rl h1 h2 h3 h4 h5 h6

/-- the lists of things, side by side -/
structure Rel (w0 w : World) (B : Nat) (ts : List (Value × Int)) (xs : List XV) : Prop where
  len : xs.length = ts.length
  at_ : ∀ (i : Nat) (x : XV) (t : Value × Int), xs[i]? = some x → ts[i]? = some t → x.uses = t.2 ∧ (t.2 ≠ 0 → Same w0 w B x t.1)

section
variable {w0 w w' : World} {B : Nat} {ts : List (Value × Int)} {xs : List XV}
theorem Rel.ext (h : Rel w0 w B ts xs) (hx : Ext w w') : Rel w0 w' B ts xs := ⟨h.len, fun i x t h1 h2 => ⟨(h.at_ i x t h1 h2).1, fun h3 => ((h.at_ i x t h1 h2).2 h3).ext hx⟩⟩
theorem Rel.mut (h : Rel w0 w B ts xs) (hx : Mut B w w') : Rel w0 w' B ts xs := ⟨h.len, fun i x t h1 h2 => ⟨(h.at_ i x t h1 h2).1, fun h3 => ((h.at_ i x t h1 h2).2 h3).mut hx⟩⟩
theorem Rel.set (h : Rel w0 w B ts xs) (i : Nat) {x' : XV} {t' : Value × Int} (hu : x'.uses = t'.2) (hs : t'.2 ≠ 0 → Same w0 w B x' t'.1) : Rel w0 w B (ts.set i t') (xs.set i x') := by
  refine ⟨by simp [h.len], fun j x t h1 h2 => ?_⟩
  rw [List.getElem?_set] at h1 h2
  by_cases hij : i = j
  · subst hij
    rw [if_pos rfl] at h1 h2
    split at h1
    · split at h2
      · cases h1; cases h2; exact ⟨hu, hs⟩
      · cases h2
    · cases h1
  · rw [if_neg hij] at h1 h2
    exact h.at_ j x t h1 h2
theorem Rel.snoc (h : Rel w0 w B ts xs) {x' : XV} {t' : Value × Int} (hu : x'.uses = t'.2) (hs : t'.2 ≠ 0 → Same w0 w B x' t'.1) : Rel w0 w B (ts ++ [t']) (xs ++ [x']) := by
  refine ⟨by simp [h.len], fun j x t h1 h2 => ?_⟩
  by_cases hj : j < ts.length
  · rw [List.getElem?_append_left (by rw [h.len]; exact hj)] at h1
    rw [List.getElem?_append_left hj] at h2
    exact h.at_ j x t h1 h2
  · rw [List.getElem?_append_right (by rw [h.len]; omega)] at h1
    rw [List.getElem?_append_right (by omega)] at h2
    rw [h.len] at h1
    cases hq : j - ts.length with
    | zero => rw [hq] at h1 h2; simp at h1 h2; subst h1; subst h2; exact ⟨hu, hs⟩
    | succ q => rw [hq] at h1; simp at h1
theorem Rel.put (h : Rel w0 w B ts xs) (i : Nat) {x' : XV} {t' : Value × Int} (hu : x'.uses = t'.2) (hs : t'.2 ≠ 0 → Same w0 w B x' t'.1) : Rel w0 w B (put ts i t') (put xs i x') := by
  unfold Proofs.Ytifadjakpllpfaa.put
  rw [h.len]
  split
  · exact h.snoc hu hs
  · exact h.set i hu hs
theorem Rel.usesEq (h : Rel w0 w B ts xs) : xs.map (·.uses) = ts.map (·.2) := by
  apply List.ext_getElem?
  intro i
  rw [List.getElem?_map, List.getElem?_map]
  by_cases hi : i < ts.length
  · obtain ⟨t, ht⟩ := at_lt (l := ts) rfl hi
    obtain ⟨x, hx⟩ := at_lt (l := xs) h.len hi
    rw [ht, hx]
    simp [(h.at_ i x t hx ht).1]
  · rw [List.getElem?_eq_none (show xs.length ≤ i by rw [h.len]; omega), List.getElem?_eq_none (show ts.length ≤ i by omega)]; rfl
theorem slot_of_uses : ∀ (l : List Int), (∀ u ∈ l, 0 ≤ u) → (l.findIdx fun u => decide (u ≤ 0)) = l.findIdx fun u => u == 0
  | [], _ => rfl
  | u :: l, h => by
    have h0 : 0 ≤ u := h u (by simp)
    have hb : decide (u ≤ 0) = (u == 0) := by
      by_cases hu : u = 0
      · subst hu; rfl
      · have : ¬ u ≤ 0 := by omega
        simp [hu, this]
    rw [List.findIdx_cons, List.findIdx_cons, hb, slot_of_uses l fun v hv => h v (by simp [hv])]
theorem Rel.slotEq (h : Rel w0 w B ts xs) (hu : ∀ t, t ∈ ts → 0 ≤ t.2 ∧ t.2 ≤ 100) : xslot xs = slot ts := by
  have h1 : xslot xs = (xs.map (·.uses)).findIdx fun u => decide (u ≤ 0) := by rw [List.findIdx_map]; rfl
  have h2 : slot ts = (ts.map (·.2)).findIdx fun u => u == 0 := by rw [List.findIdx_map]; rfl
  rw [h1, h2, h.usesEq]
  refine slot_of_uses _ fun u hm => ?_
  obtain ⟨t, ht, rfl⟩ := List.mem_map.1 hm
  exact (hu t ht).1
theorem Rel.usedEq (h : Rel w0 w B ts xs) (hu : ∀ t, t ∈ ts → 0 ≤ t.2 ∧ t.2 ≤ 100) : xused xs = used ts := by
  have h1 : xused xs = (xs.map (·.uses)).countP fun u => decide (u > 0) := by rw [List.countP_map]; rfl
  have h2 : used ts = (ts.map (·.2)).countP fun u => decide (u ≠ 0) := by rw [List.countP_map]; rfl
  rw [h1, h2, h.usesEq]
  refine List.countP_congr fun u hm => ?_
  obtain ⟨t, ht, rfl⟩ := List.mem_map.1 hm
  have := (hu t ht).1
  simp only [decide_eq_true_eq]
  omega
/-- a number: in both there is a thing, or in none -/
theorem Rel.look (h : Rel w0 w B ts xs) (id : Int) : (∃ (i : Nat) (x : XV) (t : Value × Int), id = i ∧ xs[i]? = some x ∧ ts[i]? = some t ∧ t.2 ≠ 0 ∧ x.uses = t.2 ∧ Same w0 w B x t.1) ∨ (look ts id = none ∧ xget xs id = XV.zero) := by
  rcases xget_cases xs id with ⟨i, x, rfl, hx, hu, -, -⟩ | ⟨-, hg, h1⟩
  · obtain ⟨t, ht⟩ := at_lt (l := ts) rfl (show i < ts.length by rw [← h.len]; exact (List.getElem?_eq_some_iff.1 hx).1)
    obtain ⟨h1, h2⟩ := h.at_ i x t hx ht
    exact .inl ⟨i, x, t, rfl, hx, ht, by omega, h1, h2 (by omega)⟩
  · refine .inr ⟨?_, hg⟩
    cases hl : Proofs.Ytifadjakpllpfaa.look ts id with
    | none => rfl
    | some i =>
      obtain ⟨rfl, t, ht, hu⟩ := look_some hl
      have hi := (List.getElem?_eq_some_iff.1 ht).1
      rcases h1 with h1 | h1 | ⟨j, x, hj, hx, h0⟩
      · omega
      · rw [h.len] at h1; omega
      · obtain rfl : j = i := by omega
        have := (h.at_ j x t hx ht).1
        omega
end

/-- both pools, behind k steps -/
structure Live (w0 w : World) (B g : Nat) (room : Int) (A : Option Addr) (n c : Nat) (ts : List (Value × Int)) (xs : List XV) (k : Nat) : Prop where
  pool : ∃ v, PoolAt w B g room v ts
  own : w.ownsRow B 37 10 (.slice A n c) n (flatE xv xs)
  rel : Rel w0 w B ts xs
  size : ts.length ≤ k
  uses : ∀ t, t ∈ ts → t.2 ≤ k

section
variable {w0 w w' : World} {B g : Nat} {room : Int} {A : Option Addr} {n c : Nat} {ts : List (Value × Int)} {xs : List XV} {k : Nat}
theorem Live.ext (h : Live w0 w B g room A n c ts xs k) (hx : Ext w w') : Live w0 w' B g room A n c ts xs k := by
  obtain ⟨v, hp⟩ := h.pool
  exact ⟨⟨v, PoolIs.ext hp hx⟩, own_ext h.own (by decide) hx, h.rel.ext hx, h.size, h.uses⟩
theorem Live.more (h : Live w0 w B g room A n c ts xs k) : Live w0 w B g room A n c ts xs (k + 1) := ⟨h.pool, h.own, h.rel, Nat.le_succ_of_le h.size, fun t ht => by have := h.uses t ht; omega⟩
theorem Live.bds (h : Live w0 w B g room A n c ts xs k) : ∀ t, t ∈ ts → 0 ≤ t.2 ∧ t.2 ≤ 100 := by
  obtain ⟨v, hp⟩ := h.pool
  exact hp.uses
theorem Live.rd (h : Live w0 w B g room A n c ts xs k) : Rd xv 10 w A n xs ∧ n = ts.length := by
  obtain ⟨A', c', hv, -, hr⟩ := Rd.of_own xv_len (by decide) h.own
  cases hv
  exact ⟨hr, by rw [← h.rel.len, hr.1]⟩
theorem Live.low (h : Live w0 w B g room A n c ts xs k) : B < w.heap.size := by
  obtain ⟨v, hp⟩ := h.pool
  have h1 := (Array.getElem?_eq_some_iff.1 hp.blk).1
  have h2 := hp.low
  omega

theorem put_mem {α : Type} {l : List α} {i : Nat} {x y : α} (h : y ∈ put l i x) : y ∈ l ∨ y = x := by
  unfold Proofs.Ytifadjakpllpfaa.put at h
  split at h
  · simpa using h
  · exact List.mem_or_eq_of_mem_set h
theorem put_len {α : Type} (l : List α) (i : Nat) (x : α) : (put l i x).length ≤ l.length + 1 := by
  unfold Proofs.Ytifadjakpllpfaa.put
  split <;> simp

/-- behind the pool's own addition: the reference's -/
theorem Live.mid (S : Live w0 w B g room A n c ts xs k) {w1 : World} {val v' : Value} (hm : Mut B w w1) (hp : PoolAt w1 B g room v' (addTs room ts val)) (hk : k < 99)
    (kind int : Int) (text : ByteArray) (op : Int) (L : Option Addr) (ln lc : Nat) (port backup : Int) (R : Option Addr) (rn rc : Nat) (pipe : Bool) (uses : Int) (hs : Same w0 w1 B ⟨kind, int, text, op, L, ln, lc, port, backup, R, rn, rc, pipe, 1⟩ val) :
    ∀ w2, Ext w1 w2 → Calls Try.prog 26 #[.agg #[.bool true, .int .i64 room, .slice A n c], .agg #[.int .i64 kind, .int .i64 int, .string text, .int .i64 op, .slice L ln lc, .int .i64 port, .int .i64 backup, .slice R rn rc, .bool pipe, .int .i64 uses]] w2 fun e w3 =>
      ∃ A' n' c' ts' xs', e = .returned (.tuple #[.agg #[.bool true, .int .i64 room, .slice A' n' c'], .int .i64 (addId room ts), .int .i64 (addE room ts)]) ∧ Live w0 w3 B g room A' n' c' ts' xs' (k + 1) ∧ Below w2.heap.size w2 w3 := by
  intro w2 hx
  have hown1 := own_mut S.own (by decide) (by decide) hm
  have hown2 := own_ext hown1 (by decide) hx
  have hrel2 := (S.rel.mut hm).ext hx
  have hp2 := PoolIs.ext hp hx
  have hs2 := hs.ext hx
  obtain ⟨A', c', hv, -, hr⟩ := Rd.of_own xv_len (by decide) hown2
  cases hv
  have hxl := hr.1
  have hn : n ≤ 1000 := by have := S.size; rw [← S.rel.len, hxl] at this; omega
  have hue := S.rel.usedEq S.bds
  have hse := S.rel.slotEq S.bds
  unfold addId addE addTs at *
  by_cases hf : (used ts : Int) = room
  · rw [if_pos hf] at hp2 ⊢
    rw [if_pos hf]
    refine (radd_full room A n c xs kind int text op L ln lc port backup R rn rc pipe uses w2 hr hn (by rw [hue, hf])).mono fun e w3 ⟨he, hb⟩ => ?_
    exact ⟨A, n, c, ts, xs, he, (Live.mk ⟨v', hp2⟩ hown2 hrel2 S.size S.uses).more.ext (Ext.below hb), hb⟩
  · rw [if_neg hf] at hp2 ⊢
    rw [if_neg hf]
    refine (radd_ok room A n c xs kind int text op L ln lc port backup R rn rc pipe uses w2 hr hn (by rw [hue]; exact hf)).mono fun e w3 ⟨v, m, he, ho, hb⟩ => ?_
    obtain ⟨A', c', rfl, -, hr3⟩ := Rd.of_own xv_len (by decide) ho
    have hlow : B ≤ w2.heap.size := by have := hp2.low; have := (Array.getElem?_eq_some_iff.1 hp2.blk).1; omega
    rw [hse] at he ho
    refine ⟨A', m, c', _, _, he, ⟨⟨v', PoolIs.ext hp2 (Ext.below hb)⟩, own_mono ho hlow, (hrel2.ext (Ext.below hb)).put _ rfl (fun _ => hs2.ext (Ext.below hb)), ?_, fun t ht => ?_⟩, hb⟩
    · have := put_len ts (slot ts) (val, 1); have := S.size; omega
    · rcases put_mem ht with h | rfl
      · have := S.uses t h; omega
      · show (1 : Int) ≤ _; omega

/-- use: the pool's, then the reference's -/
theorem Live.ref (S : Live w0 w B g room A n c ts xs k) (hk : k < 99) (id : Int) :
    Calls Try.prog 20 #[.pointer (some ⟨g, 0, none⟩), .int .i64 id] w fun e w1 => ∃ er : Int, e = .returned (.int .i64 er) ∧ Mut B w w1 ∧
      ∀ w2, Ext w1 w2 → Calls Try.prog 27 #[.agg #[.bool true, .int .i64 room, .slice A n c], .int .i64 id] w2 fun e w3 =>
        ∃ A' n' c' ts' xs', e = .returned (.tuple #[.agg #[.bool true, .int .i64 room, .slice A' n' c'], .int .i64 er]) ∧ Live w0 w3 B g room A' n' c' ts' xs' (k + 1) ∧ Below w2.heap.size w2 w3 := by
  obtain ⟨v, hp⟩ := S.pool
  obtain ⟨hr, hnl⟩ := S.rd
  have hn : n ≤ 1000 := by have := S.size; omega
  rcases S.rel.look id with ⟨i, x, t, rfl, hx, ht, hu, hxu, hs⟩ | ⟨hl, hg⟩
  · have htk := S.uses t (List.mem_of_getElem? ht)
    have ht0 := (S.bds t (List.mem_of_getElem? ht)).1
    refine (ref_some hp ht hu (by omega)).mono fun e w1 ⟨he, hp1, hm⟩ => ⟨0, he, hm, fun w2 hx2 => ?_⟩
    have hown2 := own_ext (own_mut S.own (by decide) (by decide) hm) (by decide) hx2
    obtain ⟨A', c', hv, -, hr2⟩ := Rd.of_own xv_len (by decide) hown2
    cases hv
    obtain ⟨kind, int, text, op, L, ln, lc, port, backup, R, rn, rc, pipe, uses⟩ := x
    change uses = t.2 at hxu
    refine (rref_some room A n c xs i kind int text op L ln lc port backup R rn rc pipe uses w2 hr2 hn hx (by omega) (by omega)).mono fun e w3 ⟨v3, he, ho, hb⟩ => ?_
    obtain ⟨A3, c3, rfl, -, -⟩ := Rd.of_own xv_len (by decide) ho
    have hp2 := PoolIs.ext hp1 hx2
    have hlow : B ≤ w2.heap.size := by have := hp2.low; have := (Array.getElem?_eq_some_iff.1 hp2.blk).1; omega
    have hx3 := hx2.trans (Ext.below hb)
    refine ⟨A3, n, c3, _, _, he, ⟨⟨v, PoolIs.ext hp2 (Ext.below hb)⟩, own_mono ho hlow, ((S.rel.mut hm).ext hx3).set i ?_ (fun _ => ((hs.used (uses + 1)).mut hm).ext hx3), ?_, fun q hq => ?_⟩, hb⟩
    · show uses + 1 = t.2 + 1
      omega
    · rw [List.length_set]; have := S.size; omega
    · rcases List.mem_or_eq_of_mem_set hq with h | rfl
      · have := S.uses q h; omega
      · show t.2 + 1 ≤ ((k + 1 : Nat) : Int); omega
  · refine (ref_none hp hl).mono fun e w1 ⟨he, hw⟩ => ⟨31, he, by rw [hw]; exact Mut.refl _ _, fun w2 hx2 => ?_⟩
    subst hw
    have S2 := S.ext hx2
    refine (rref_none room A n c xs id w2 S2.rd.1 hn hg).mono fun e w3 ⟨he, hb⟩ => ?_
    exact ⟨A, n, c, ts, xs, he, S2.more.ext (Ext.below hb), hb⟩

/-- letting go: the pool's, then the reference's -/
theorem Live.unref (S : Live w0 w B g room A n c ts xs k) (hk : k < 99) (id : Int) :
    Calls Try.prog 23 #[.pointer (some ⟨g, 0, none⟩), .int .i64 id] w fun e w1 => ∃ (o : Bool) (er : Int), e = .returned (.tuple #[.bool o, .int .i64 er]) ∧ Mut B w w1 ∧
      ∀ w2, Ext w1 w2 → Calls Try.prog 28 #[.agg #[.bool true, .int .i64 room, .slice A n c], .int .i64 id] w2 fun e w3 =>
        ∃ A' n' c' ts' xs', e = .returned (.tuple #[.agg #[.bool true, .int .i64 room, .slice A' n' c'], .bool o, .int .i64 er]) ∧ Live w0 w3 B g room A' n' c' ts' xs' (k + 1) ∧ Below w2.heap.size w2 w3 := by
  obtain ⟨v, hp⟩ := S.pool
  obtain ⟨hr, hnl⟩ := S.rd
  have hn : n ≤ 1000 := by have := S.size; omega
  rcases S.rel.look id with ⟨i, x, t, rfl, hx, ht, hu, hxu, hs⟩ | ⟨hl, hg⟩
  · have htk := S.uses t (List.mem_of_getElem? ht)
    have ht0 := (S.bds t (List.mem_of_getElem? ht)).1
    obtain ⟨kind, int, text, op, L, ln, lc, port, backup, R, rn, rc, pipe, uses⟩ := x
    change uses = t.2 at hxu
    have key : ∀ (o : Bool) (t' : Value × Int) (w1 : World), o = (uses - 1 == 0) → t'.2 = t.2 - 1 → (t'.2 ≠ 0 → t'.1 = t.1) → PoolAt w1 B g room v (ts.set i t') → Mut B w w1 →
        ∀ w2, Ext w1 w2 → Calls Try.prog 28 #[.agg #[.bool true, .int .i64 room, .slice A n c], .int .i64 i] w2 fun e w3 =>
          ∃ A' n' c' ts' xs', e = .returned (.tuple #[.agg #[.bool true, .int .i64 room, .slice A' n' c'], .bool o, .int .i64 0]) ∧ Live w0 w3 B g room A' n' c' ts' xs' (k + 1) ∧ Below w2.heap.size w2 w3 := by
      intro o t' w1 ho' ht2 ht1 hp1 hm w2 hx2
      have hown2 := own_ext (own_mut S.own (by decide) (by decide) hm) (by decide) hx2
      obtain ⟨A', c', hv, -, hr2⟩ := Rd.of_own xv_len (by decide) hown2
      cases hv
      refine (runref_some room A n c xs i kind int text op L ln lc port backup R rn rc pipe uses w2 hr2 hn hx (by omega) (by omega)).mono fun e w3 ⟨v3, he, ho, hb⟩ => ?_
      obtain ⟨A3, c3, rfl, -, -⟩ := Rd.of_own xv_len (by decide) ho
      have hp2 := PoolIs.ext hp1 hx2
      have hlow : B ≤ w2.heap.size := by have := hp2.low; have := (Array.getElem?_eq_some_iff.1 hp2.blk).1; omega
      have hx3 := hx2.trans (Ext.below hb)
      rw [← ho'] at he
      refine ⟨A3, n, c3, _, _, he, ⟨⟨v, PoolIs.ext hp2 (Ext.below hb)⟩, own_mono ho hlow, ((S.rel.mut hm).ext hx3).set i ?_ (fun h0 => by rw [ht1 h0]; exact ((hs.used (uses - 1)).mut hm).ext hx3), ?_, fun q hq => ?_⟩, hb⟩
      · show uses - 1 = t'.2
        omega
      · rw [List.length_set]; have := S.size; omega
      · rcases List.mem_or_eq_of_mem_set hq with h | rfl
        · have := S.uses q h; omega
        · omega
    by_cases h1 : t.2 = 1
    · exact (unref_last hp ht h1).mono fun e w1 ⟨he, hp1, hm⟩ => ⟨true, 0, he, hm, key true (.nilIface, 0) w1 (by rw [hxu, h1]; rfl) (by rw [h1]; rfl) (fun h => absurd rfl h) hp1 hm⟩
    · exact (unref_more hp ht (by omega)).mono fun e w1 ⟨he, hp1, hm⟩ => ⟨false, 0, he, hm, key false (t.1, t.2 - 1) w1 (by rw [hxu]; symm; simp; omega) rfl (fun _ => rfl) hp1 hm⟩
  · refine (unref_none hp hl).mono fun e w1 ⟨he, hw⟩ => ⟨false, 31, he, by rw [hw]; exact Mut.refl _ _, fun w2 hx2 => ?_⟩
    subst hw
    have S2 := S.ext hx2
    refine (runref_none room A n c xs id w2 S2.rd.1 hn hg).mono fun e w3 ⟨he, hb⟩ => ?_
    exact ⟨A, n, c, ts, xs, he, S2.more.ext (Ext.below hb), hb⟩
end

end Go.Proofs.Ytifadjakpllpfaa
