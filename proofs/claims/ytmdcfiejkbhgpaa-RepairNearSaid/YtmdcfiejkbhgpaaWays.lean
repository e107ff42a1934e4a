/-
  Graphs that may be; next nodes, the lowest way, what a way costs. No program in sight.
-/
import Derived.Test.YtmdcfiejkbhgpaaGraph
namespace Go.Proofs.Ytmdcfiejkbhgpaa

/-- a graph that may be -/
structure GOk (n : Int) (l : List Lk) : Prop where
  n1 : 1 ≤ n
  n64 : n ≤ 64
  ok : ∀ x ∈ l, 0 ≤ x.f ∧ x.f < n ∧ 0 ≤ x.t ∧ x.t < n ∧ x.f ≠ x.t ∧ 1 ≤ x.c ∧ x.c ≤ 16777216
  uniq : l.Pairwise (fun x y => ¬ (x.f = y.f ∧ x.t = y.t))
theorem GOk.pos {n : Int} {l : List Lk} (h : GOk n l) : Pos l := fun x hx => (h.ok x hx).2.2.2.2.2.1
theorem GOk.one {n : Int} {l : List Lk} (h : GOk n l) {x y : Lk} (hx : x ∈ l) (hy : y ∈ l) (hf : x.f = y.f) (ht : x.t = y.t) : x = y := by
  obtain ⟨i, hi, rfl⟩ := List.getElem_of_mem hx
  obtain ⟨j, hj, rfl⟩ := List.getElem_of_mem hy
  have hu := List.pairwise_iff_getElem.1 h.uniq
  rcases Nat.lt_trichotomy i j with h1 | rfl | h1
  · exact absurd ⟨hf, ht⟩ (hu i j hi hj h1)
  · rfl
  · exact absurd ⟨hf.symm, ht.symm⟩ (hu j i hj hi h1)
theorem GOk.turn {n : Int} {l : List Lk} (h : GOk n l) : GOk n (l.map turn) := by
  refine ⟨h.n1, h.n64, fun x hx => ?_, ?_⟩
  · obtain ⟨y, hy, rfl⟩ := List.mem_map.1 hx
    have := h.ok y hy
    simp only [Go.Proofs.Ytmdcfiejkbhgpaa.turn]
    exact ⟨this.2.2.1, this.2.2.2.1, this.1, this.2.1, fun e => this.2.2.2.2.1 e.symm, this.2.2.2.2.2⟩
  · rw [List.pairwise_map]
    exact h.uniq.imp fun hn e => hn ⟨e.2, e.1⟩
theorem GOk.fewer {n : Int} {l : List Lk} (h : GOk n l) {m : List Lk} (hm : m.Sublist l) : GOk n m :=
  ⟨h.n1, h.n64, fun x hx => h.ok x (hm.subset hx), h.uniq.sublist hm⟩

/-- b is next behind a on a cheapest way to t -/
def nextTo (l : List Lk) (t a b : Int) : Prop := 1 ≤ D l a t ∧ ∃ k, (⟨a, b, k⟩ : Lk) ∈ l ∧ 0 ≤ D l b t ∧ k + D l b t = D l a t
/-- the nodes -/
def nodes (n : Int) : List Int := (List.range n.toNat).map fun i : Nat => (i : Int)
theorem mem_nodes {n x : Int} : x ∈ nodes n ↔ 0 ≤ x ∧ x < n := by
  unfold nodes
  rw [List.mem_map]
  constructor
  · rintro ⟨i, hi, rfl⟩
    rw [List.mem_range] at hi
    omega
  · intro h
    exact ⟨x.toNat, by rw [List.mem_range]; omega, by omega⟩
theorem nodes_sorted (n : Int) : (nodes n).Pairwise (· < ·) := by
  unfold nodes
  rw [List.pairwise_map]
  exact List.pairwise_lt_range.imp fun h => by omega
open Classical in
/-- the next nodes, rising -/
noncomputable def nexts (n : Int) (l : List Lk) (a t : Int) : List Int := (nodes n).filter fun b => decide (nextTo l t a b)
theorem mem_nexts {n : Int} {l : List Lk} (h : GOk n l) {a t b : Int} : b ∈ nexts n l a t ↔ nextTo l t a b := by
  unfold nexts
  rw [List.mem_filter, mem_nodes]
  constructor
  · rintro ⟨_, h2⟩; simpa using h2
  · intro hn
    have hn' := hn
    obtain ⟨_, k, hk, _⟩ := hn'
    have := h.ok _ hk
    simp only at this
    exact ⟨⟨by omega, by omega⟩, by simpa using hn⟩
theorem nexts_sorted (n : Int) (l : List Lk) (a t : Int) : (nexts n l a t).Pairwise (· < ·) := (nodes_sorted n).filter _
theorem nexts_nil {n : Int} {l : List Lk} {a t : Int} (hd : D l a t < 1) : nexts n l a t = [] := by
  unfold nexts
  rw [List.filter_eq_nil_iff]
  intro b _
  simp only [decide_eq_true_eq]
  intro hn
  have := hn.1
  omega
/-- the lowest of them -/
theorem nexts_cons {n : Int} {l : List Lk} (h : GOk n l) {a t : Int} (hd : 1 ≤ D l a t) : ∃ b r, nexts n l a t = b :: r ∧ nextTo l t a b := by
  obtain ⟨b, k, hk, h0, h1⟩ := D_next h.pos hd
  have hm : b ∈ nexts n l a t := (mem_nexts h).2 ⟨hd, k, hk, h0, h1⟩
  cases hn : nexts n l a t with
  | nil => rw [hn] at hm; cases hm
  | cons c r => exact ⟨c, r, rfl, (mem_nexts h).1 (by rw [hn]; simp)⟩
/-- two rows, rising, of the same numbers -/
theorem sorted_ext : ∀ {a b : List Int}, a.Pairwise (· < ·) → b.Pairwise (· < ·) → (∀ x, x ∈ a ↔ x ∈ b) → a = b
  | [], [], _, _, _ => rfl
  | [], y :: b, _, _, h => by have := (h y).2 (by simp); cases this
  | x :: a, [], _, _, h => by have := (h x).1 (by simp); cases this
  | x :: a, y :: b, ha, hb, h => by
    rw [List.pairwise_cons] at ha hb
    have e : x = y := by
      rcases List.mem_cons.1 ((h x).1 (by simp)) with e | h1
      · exact e
      · rcases List.mem_cons.1 ((h y).2 (by simp)) with e | h2
        · exact e.symm
        · have := hb.1 x h1; have := ha.1 y h2; omega
    subst e
    congr 1
    refine sorted_ext ha.2 hb.2 fun z => ?_
    constructor
    · intro hz
      rcases List.mem_cons.1 ((h z).1 (by simp [hz])) with e | h1
      · subst e; have := ha.1 z hz; omega
      · exact h1
    · intro hz
      rcases List.mem_cons.1 ((h z).2 (by simp [hz])) with e | h1
      · subst e; have := hb.1 z hz; omega
      · exact h1

/-- the lowest way, as far as so many steps -/
noncomputable def pathF (n : Int) (l : List Lk) (t : Int) : Nat → Int → List Int
  | 0, a => [a]
  | k + 1, a => if a = t then [a] else match nexts n l a t with | [] => [a] | b :: _ => a :: pathF n l t k b
noncomputable def pathL (n : Int) (l : List Lk) (a t : Int) : List Int := if D l a t < 0 then [] else pathF n l t (D l a t).toNat a
section
variable {n : Int} {l : List Lk} (h : GOk n l)
include h
theorem pathF_more {t : Int} : ∀ (k j : Nat) (a : Int), 0 ≤ D l a t → D l a t ≤ k → D l a t ≤ j → pathF n l t k a = pathF n l t j a := by
  intro k
  induction k with
  | zero =>
    intro j a h0 h1 _
    have e : a = t := (D_zero h.pos).1 (by omega)
    subst e
    cases j with
    | zero => rfl
    | succ j => simp [pathF]
  | succ k ih =>
    intro j a h0 h1 h2
    by_cases e : a = t
    · subst e
      cases j with
      | zero => simp [pathF]
      | succ j => simp [pathF]
    · have hd := D_pos h.pos h0 e
      obtain ⟨b, r, hb, hn⟩ := nexts_cons h hd
      obtain ⟨_, c, hc, hb0, hbe⟩ := hn
      have hc1 := h.pos _ hc
      simp only at hc1
      cases j with
      | zero => omega
      | succ j =>
        rw [pathF, pathF, if_neg e, if_neg e, hb]
        simp only
        rw [ih j b hb0 (by omega) (by omega)]
theorem pathL_end (t : Int) : pathL n l t t = [t] := by
  unfold pathL
  rw [if_neg (by rw [D_self h.pos]; omega), D_self h.pos]
  rfl
omit h in
theorem pathL_no {a t : Int} (hd : D l a t < 0) : pathL n l a t = [] := by rw [pathL, if_pos hd]
theorem pathL_step {a t b : Int} {r : List Int} (hd : 1 ≤ D l a t) (hb : nexts n l a t = b :: r) : pathL n l a t = a :: pathL n l b t := by
  have hn := (mem_nexts h).1 (show b ∈ nexts n l a t by rw [hb]; simp)
  obtain ⟨_, c, hc, hb0, hbe⟩ := hn
  have hc1 := h.pos _ hc
  simp only at hc1
  have e : a ≠ t := fun e => by have := (D_zero h.pos).2 e; omega
  have e1 : (D l a t).toNat = ((D l a t).toNat - 1) + 1 := by omega
  unfold pathL
  rw [if_neg (by omega), if_neg (by omega), e1, pathF, if_neg e, hb]
  simp only
  rw [pathF_more h _ (D l b t).toNat b hb0 (by omega) (by omega)]
theorem pathL_head {a t : Int} (hd : 0 ≤ D l a t) : ∃ r, pathL n l a t = a :: r := by
  by_cases e : a = t
  · subst e; exact ⟨[], pathL_end h a⟩
  · have h1 := D_pos h.pos hd e
    obtain ⟨b, r, hb, _⟩ := nexts_cons h h1
    exact ⟨_, pathL_step h h1 hb⟩
end
/-- what a link costs -/
def linkC (l : List Lk) (a b : Int) : Option Int := (l.find? fun x => x.f == a && x.t == b).map fun x => x.c
/-- what a way costs behind its first node -/
def costF (l : List Lk) : Int → List Int → Option Int
  | _, [] => some 0
  | a, b :: r => (linkC l a b).bind fun k => (costF l b r).map fun c => k + c
def costG (l : List Lk) : List Int → Option Int
  | [] => none
  | a :: r => costF l a r
theorem linkC_some {n : Int} {l : List Lk} (h : GOk n l) {a b k : Int} : linkC l a b = some k ↔ (⟨a, b, k⟩ : Lk) ∈ l := by
  unfold linkC
  constructor
  · intro he
    cases hf : l.find? (fun x => x.f == a && x.t == b) with
    | none => rw [hf] at he; cases he
    | some x =>
      rw [hf] at he
      cases he
      have h1 := List.mem_of_find?_eq_some hf
      have h2 := List.find?_some hf
      simp at h2
      obtain ⟨rfl, rfl⟩ := h2
      exact h1
  · intro hm
    cases hf : l.find? (fun x => x.f == a && x.t == b) with
    | none =>
      have := List.find?_eq_none.1 hf _ hm
      simp at this
    | some x =>
      have h1 := List.mem_of_find?_eq_some hf
      have h2 := List.find?_some hf
      simp at h2
      have := h.one h1 hm h2.1 h2.2
      rw [this]; rfl
/-- the lowest way costs just the least -/
theorem path_cost {n : Int} {l : List Lk} (h : GOk n l) {t : Int} : ∀ (k : Nat) (a : Int), 0 ≤ D l a t → D l a t ≤ k → costG l (pathL n l a t) = some (D l a t) := by
  intro k
  induction k with
  | zero =>
    intro a h0 h1
    have e : a = t := (D_zero h.pos).1 (by omega)
    subst e
    rw [pathL_end h, D_self h.pos]; rfl
  | succ k ih =>
    intro a h0 h1
    by_cases e : a = t
    · subst e; rw [pathL_end h, D_self h.pos]; rfl
    · have hd := D_pos h.pos h0 e
      obtain ⟨b, r, hb, hn⟩ := nexts_cons h hd
      rw [pathL_step h hd hb]
      obtain ⟨_, c, hc, hb0, hbe⟩ := hn
      have hc1 := h.pos _ hc
      simp only at hc1
      obtain ⟨q, hq⟩ := pathL_head h (a := b) (t := t) hb0
      have h2 := ih b hb0 (by omega)
      rw [hq] at h2 ⊢
      show (linkC l a b).bind _ = _
      rw [(linkC_some h).2 hc]
      have h3 : costF l b q = some (D l b t) := h2
      simp only [Option.bind_some, h3, Option.map_some, hbe]
/-- its parts are lowest ways -/
theorem path_part {n : Int} {l : List Lk} (h : GOk n l) {t : Int} : ∀ (k : Nat) (a : Int), 0 ≤ D l a t → D l a t ≤ k → ∀ i x, (pathL n l a t)[i]? = some x → pathL n l x t = (pathL n l a t).drop i ∧ 0 ≤ D l x t ∧ D l x t ≤ D l a t ∧ (0 < i → D l x t < D l a t) := by
  intro k
  induction k with
  | zero =>
    intro a h0 h1 i x hx
    have e : a = t := (D_zero h.pos).1 (by omega)
    subst e
    rw [pathL_end h] at hx ⊢
    cases i with
    | zero => simp at hx; subst hx; rw [pathL_end h]; simp; omega
    | succ i => simp at hx
  | succ k ih =>
    intro a h0 h1 i x hx
    by_cases e : a = t
    · subst e
      rw [pathL_end h] at hx ⊢
      cases i with
      | zero => simp at hx; subst hx; rw [pathL_end h]; simp; omega
      | succ i => simp at hx
    · have hd := D_pos h.pos h0 e
      obtain ⟨b, r, hb, hn⟩ := nexts_cons h hd
      rw [pathL_step h hd hb] at hx ⊢
      obtain ⟨_, c, hc, hb0, hbe⟩ := hn
      have hc1 := h.pos _ hc
      simp only at hc1
      cases i with
      | zero =>
        simp at hx; subst hx
        exact ⟨pathL_step h hd hb, h0, Int.le_refl _, fun h => absurd h (by omega)⟩
      | succ i =>
        obtain ⟨h2, h3, h4, h5⟩ := ih b hb0 (by omega) i x (by simpa using hx)
        exact ⟨by rw [h2]; rfl, h3, by omega, fun _ => by omega⟩
theorem path_mem {n : Int} {l : List Lk} (h : GOk n l) {t : Int} : ∀ (k : Nat) (a : Int), 0 ≤ D l a t → D l a t ≤ k → 0 ≤ a → a < n → ∀ x ∈ pathL n l a t, 0 ≤ x ∧ x < n := by
  intro k
  induction k with
  | zero =>
    intro a h0 h1 ha hn x hx
    have e : a = t := (D_zero h.pos).1 (by omega)
    subst e
    rw [pathL_end h] at hx
    simp at hx; subst hx; exact ⟨ha, hn⟩
  | succ k ih =>
    intro a h0 h1 ha hn x hx
    by_cases e : a = t
    · subst e
      rw [pathL_end h] at hx
      simp at hx; subst hx; exact ⟨ha, hn⟩
    · have hd := D_pos h.pos h0 e
      obtain ⟨b, r, hb, hn'⟩ := nexts_cons h hd
      rw [pathL_step h hd hb] at hx
      obtain ⟨_, c, hc, hb0, hbe⟩ := hn'
      have hc1 := h.ok _ hc
      simp only at hc1
      rcases List.mem_cons.1 hx with rfl | hx
      · exact ⟨ha, hn⟩
      · exact ih b hb0 (by omega) hc1.2.2.1 hc1.2.2.2.1 x hx
/-- it goes over no node twice -/
theorem path_nodup {n : Int} {l : List Lk} (h : GOk n l) {a t : Int} (h0 : 0 ≤ D l a t) : (pathL n l a t).Nodup := by
  unfold List.Nodup
  rw [List.pairwise_iff_getElem]
  intro i j hi hj hij he
  have h1 := path_part h (D l a t).toNat a h0 (by omega) i _ (List.getElem?_eq_getElem hi)
  have h2 := path_part h (D l ((pathL n l a t)[i]) t).toNat _ h1.2.1 (by omega) (j - i) ((pathL n l a t)[j]) (by rw [h1.1, List.getElem?_drop, show i + (j - i) = j by omega]; exact List.getElem?_eq_getElem hj)
  have := h2.2.2.2 (by omega)
  rw [he] at this
  omega
theorem nodup_sub : ∀ (p m : List Int), p.Nodup → (∀ x ∈ p, x ∈ m) → p.length ≤ m.length
  | [], _, _, _ => Nat.zero_le _
  | x :: q, m, hp, hs => by
    rw [List.nodup_cons] at hp
    have hx := hs x (by simp)
    have h1 := nodup_sub q (m.erase x) hp.2 (fun y hy => (List.mem_erase_of_ne (fun e => hp.1 (by rw [← e]; exact hy))).2 (hs y (by simp [hy])))
    rw [List.length_erase_of_mem hx] at h1
    have : 0 < m.length := List.length_pos_of_mem hx
    simp only [List.length_cons]
    omega
theorem nodup_len {n : Int} {p : List Int} (hp : p.Nodup) (hm : ∀ x ∈ p, 0 ≤ x ∧ x < n) : p.length ≤ n.toNat := by
  have := nodup_sub p (nodes n) hp (fun x hx => mem_nodes.2 (hm x hx))
  simpa [nodes] using this
theorem path_len {n : Int} {l : List Lk} (h : GOk n l) {a t : Int} (h0 : 0 ≤ D l a t) (ha : 0 ≤ a ∧ a < n) : (pathL n l a t).length ≤ n.toNat :=
  nodup_len (path_nodup h h0) (path_mem h (D l a t).toNat a h0 (by omega) ha.1 ha.2)
/-- what a way may cost at most -/
theorem costF_le {n : Int} {l : List Lk} (h : GOk n l) : ∀ (r : List Int) (a c : Int), costF l a r = some c → 0 ≤ c ∧ c ≤ 16777216 * r.length
  | [], a, c, e => by cases e; simp
  | b :: r, a, c, e => by
    simp only [costF] at e
    cases hk : linkC l a b with
    | none => rw [hk] at e; cases e
    | some k =>
      rw [hk] at e
      simp only [Option.bind_some] at e
      cases hr : costF l b r with
      | none => rw [hr] at e; cases e
      | some d =>
        rw [hr] at e
        cases e
        have h1 := costF_le h r b d hr
        have h2 := h.ok _ ((linkC_some h).1 hk)
        simp only at h2
        simp only [List.length_cons]
        omega
/-- no cheapest way costs more -/
theorem D_top {n : Int} {l : List Lk} (h : GOk n l) {a t : Int} (ha : 0 ≤ a ∧ a < n) : D l a t ≤ 1073741824 := by
  rcases Int.lt_or_le (D l a t) 0 with h0 | h0
  · omega
  · have h1 := path_cost h (D l a t).toNat a h0 (by omega)
    have h2 := path_len h h0 ha
    obtain ⟨r, hr⟩ := pathL_head h h0
    rw [hr] at h1 h2
    have h3 := costF_le h r a _ h1
    simp only [List.length_cons] at h2
    have := h.n64
    omega
end Go.Proofs.Ytmdcfiejkbhgpaa
