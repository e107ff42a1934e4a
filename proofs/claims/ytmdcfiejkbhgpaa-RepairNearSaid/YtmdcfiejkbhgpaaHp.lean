/-
  A heap of pairs in a list, the least second part first: sifted up, sifted down. Plain; no program.
-/
import Derived.Test.YtmdcfiejkbhgpaaMem
namespace Go.Proofs.Ytmdcfiejkbhgpaa

abbrev Wq := List (Int × Int)
def cst (q : Wq) (i : Nat) : Int := (q.getD i (0, 0)).2
def swapQ (q : Wq) (i j : Nat) : Wq := (q.set i (q.getD j (0, 0))).set j (q.getD i (0, 0))
theorem swapQ_len (q : Wq) (i j : Nat) : (swapQ q i j).length = q.length := by simp [swapQ]
theorem swapQ_at (q : Wq) {i j k : Nat} (hi : i < q.length) (hj : j < q.length) : (swapQ q i j).getD k (0, 0) = if k = j then q.getD i (0, 0) else if k = i then q.getD j (0, 0) else q.getD k (0, 0) := by
  unfold swapQ
  simp only [List.getD_eq_getElem?_getD, List.getElem?_set, List.length_set]
  by_cases h1 : k = j
  · subst h1
    simp [hj]
  · rw [if_neg (fun e => h1 e.symm), if_neg h1]
    by_cases h2 : k = i
    · subst h2
      simp [hi]
    · rw [if_neg (fun e => h2 e.symm), if_neg h2]
theorem cst_swap (q : Wq) {i j k : Nat} (hi : i < q.length) (hj : j < q.length) : cst (swapQ q i j) k = if k = j then cst q i else if k = i then cst q j else cst q k := by
  unfold cst
  rw [swapQ_at q hi hj]
  split
  · rfl
  · split <;> rfl
/-- as many, and the same ones -/
def SameM (q r : Wq) : Prop := r.length = q.length ∧ ∀ x, x ∈ r ↔ x ∈ q
theorem SameM.refl (q : Wq) : SameM q q := ⟨rfl, fun _ => Iff.rfl⟩
theorem SameM.trans {a b c : Wq} (h : SameM a b) (k : SameM b c) : SameM a c := ⟨k.1.trans h.1, fun x => (k.2 x).trans (h.2 x)⟩
theorem mem_iff_getD {q : Wq} {x : Int × Int} : x ∈ q ↔ ∃ k, k < q.length ∧ q.getD k (0, 0) = x := by
  constructor
  · intro h
    obtain ⟨k, hk, rfl⟩ := List.getElem_of_mem h
    exact ⟨k, hk, by simp [List.getD_eq_getElem?_getD, List.getElem?_eq_getElem hk]⟩
  · rintro ⟨k, hk, rfl⟩
    rw [List.getD_eq_getElem?_getD, List.getElem?_eq_getElem hk]
    exact List.getElem_mem hk
theorem swapQ_same (q : Wq) {i j : Nat} (hi : i < q.length) (hj : j < q.length) : SameM q (swapQ q i j) := by
  refine ⟨swapQ_len q i j, fun x => ?_⟩
  rw [mem_iff_getD, mem_iff_getD, swapQ_len]
  constructor
  · rintro ⟨k, hk, rfl⟩
    rw [swapQ_at q hi hj]
    split
    · exact ⟨i, hi, rfl⟩
    · split
      · exact ⟨j, hj, rfl⟩
      · exact ⟨k, hk, rfl⟩
  · rintro ⟨k, hk, rfl⟩
    by_cases h1 : k = i
    · subst h1
      exact ⟨j, hj, by rw [swapQ_at q hi hj, if_pos rfl]⟩
    · by_cases h2 : k = j
      · subst h2
        refine ⟨i, hi, ?_⟩
        rw [swapQ_at q hi hj, if_neg (fun e => h1 e.symm), if_pos rfl]
      · exact ⟨k, hk, by rw [swapQ_at q hi hj, if_neg h2, if_neg h1]⟩
/-- each is behind its parent -/
def IsHp (q : Wq) : Prop := ∀ i, 0 < i → i < q.length → cst q ((i - 1) / 2) ≤ cst q i
theorem IsHp.least {q : Wq} (h : IsHp q) : ∀ i, i < q.length → cst q 0 ≤ cst q i := by
  intro i
  induction i using Nat.strongRecOn with
  | ind i ih =>
    intro hi
    by_cases h0 : i = 0
    · subst h0; exact Int.le_refl _
    · exact Int.le_trans (ih ((i - 1) / 2) (by omega) (by omega)) (h i (by omega) hi)

/-- a heap, but that place j may be too far behind -/
def UpInv (q : Wq) (j : Nat) : Prop := (∀ i, 0 < i → i < q.length → i ≠ j → cst q ((i - 1) / 2) ≤ cst q i) ∧ ∀ i, 0 < i → i < q.length → (i - 1) / 2 = j → 0 < j → cst q ((j - 1) / 2) ≤ cst q i
theorem UpInv.zero {q : Wq} (h : UpInv q 0) : IsHp q := fun i h0 hi => h.1 i h0 hi (by omega)
theorem UpInv.done {q : Wq} {j : Nat} (h : UpInv q j) (hc : ¬ cst q j < cst q ((j - 1) / 2)) : IsHp q := by
  intro i h0 hi
  by_cases e : i = j
  · subst e; omega
  · exact h.1 i h0 hi e
theorem UpInv.step {q : Wq} {j : Nat} (h : UpInv q j) (h0 : 0 < j) (hj : j < q.length) (hc : cst q j < cst q ((j - 1) / 2)) : UpInv (swapQ q ((j - 1) / 2) j) ((j - 1) / 2) := by
  have hi : (j - 1) / 2 < q.length := by omega
  refine ⟨fun k k0 hk hne => ?_, fun k k0 hk hp hpos => ?_⟩
  · rw [swapQ_len] at hk
    rw [cst_swap q hi hj, cst_swap q hi hj]
    by_cases e1 : k = j
    · subst e1
      rw [if_pos rfl, if_neg (by omega), if_pos rfl]
      omega
    · rw [if_neg e1, if_neg hne]
      by_cases e2 : (k - 1) / 2 = j
      · rw [if_pos e2]
        exact h.2 k k0 hk e2 h0
      · rw [if_neg e2]
        by_cases e3 : (k - 1) / 2 = (j - 1) / 2
        · rw [if_pos e3]
          have := h.1 k k0 hk e1
          rw [e3] at this
          omega
        · rw [if_neg e3]
          exact h.1 k k0 hk e1
  · rw [swapQ_len] at hk
    rw [cst_swap q hi hj, cst_swap q hi hj]
    have hpar := h.1 ((j - 1) / 2) hpos hi (by omega)
    rw [if_neg (show ¬ ((j - 1) / 2 - 1) / 2 = j by omega), if_neg (show ¬ ((j - 1) / 2 - 1) / 2 = (j - 1) / 2 by omega)]
    by_cases e1 : k = j
    · rw [if_pos e1]; exact hpar
    · rw [if_neg e1, if_neg (by omega)]
      have := h.1 k k0 hk e1
      rw [hp] at this
      omega
theorem cst_app {q r : Wq} {i : Nat} (hi : i < q.length) : cst (q ++ r) i = cst q i := by
  unfold cst
  simp [List.getD_eq_getElem?_getD, List.getElem?_append_left hi]
theorem IsHp.push {q : Wq} (h : IsHp q) (x : Int × Int) : UpInv (q ++ [x]) q.length := by
  refine ⟨fun i h0 hi hne => ?_, fun i h0 hi hp _ => ?_⟩
  · simp at hi
    rw [cst_app (by omega), cst_app (by omega)]
    exact h i h0 (by omega)
  · simp at hi
    omega

/-- a heap, but that place i may be too far ahead -/
def DnInv (q : Wq) (i : Nat) : Prop := (∀ k, 0 < k → k < q.length → (k - 1) / 2 ≠ i → cst q ((k - 1) / 2) ≤ cst q k) ∧ ∀ k, 0 < k → k < q.length → (k - 1) / 2 = i → 0 < i → cst q ((i - 1) / 2) ≤ cst q k
theorem DnInv.leaf {q : Wq} {i : Nat} (h : DnInv q i) (hl : q.length ≤ 2 * i + 1) : IsHp q := fun k h0 hk => h.1 k h0 hk (by omega)
/-- j is the child of i that costs less -/
def Child (q : Wq) (i j : Nat) : Prop := 0 < j ∧ j < q.length ∧ (j - 1) / 2 = i ∧ ∀ k, 0 < k → k < q.length → (k - 1) / 2 = i → cst q j ≤ cst q k
theorem child_one {q : Wq} {i : Nat} (h : 2 * i + 1 < q.length) (h2 : q.length ≤ 2 * i + 2) : Child q i (2 * i + 1) :=
  ⟨by omega, h, by omega, fun k h0 hk hp => by
    have : k = 2 * i + 1 := by omega
    rw [this]; exact Int.le_refl _⟩
theorem child_right {q : Wq} {i : Nat} (h : 2 * i + 2 < q.length) (hc : cst q (2 * i + 2) < cst q (2 * i + 1)) : Child q i (2 * i + 2) :=
  ⟨by omega, h, by omega, fun k h0 hk hp => by
    have : k = 2 * i + 1 ∨ k = 2 * i + 2 := by omega
    rcases this with rfl | rfl <;> omega⟩
theorem child_left {q : Wq} {i : Nat} (h : 2 * i + 2 < q.length) (hc : ¬ cst q (2 * i + 2) < cst q (2 * i + 1)) : Child q i (2 * i + 1) :=
  ⟨by omega, by omega, by omega, fun k h0 hk hp => by
    have : k = 2 * i + 1 ∨ k = 2 * i + 2 := by omega
    rcases this with rfl | rfl <;> omega⟩
theorem DnInv.done {q : Wq} {i j : Nat} (h : DnInv q i) (hc : Child q i j) (hlt : ¬ cst q j < cst q i) : IsHp q := by
  intro k h0 hk
  by_cases e : (k - 1) / 2 = i
  · have := hc.2.2.2 k h0 hk e
    rw [e]
    omega
  · exact h.1 k h0 hk e
theorem DnInv.step {q : Wq} {i j : Nat} (h : DnInv q i) (hc : Child q i j) (hlt : cst q j < cst q i) : DnInv (swapQ q i j) j := by
  obtain ⟨hj0, hj, hp, hmin⟩ := hc
  have hi : i < q.length := by omega
  refine ⟨fun k k0 hk hne => ?_, fun k k0 hk hpk _ => ?_⟩
  · rw [swapQ_len] at hk
    rw [cst_swap q hi hj, cst_swap q hi hj, if_neg hne]
    by_cases e1 : (k - 1) / 2 = i
    · rw [if_pos e1]
      by_cases e2 : k = j
      · rw [if_pos e2]; omega
      · rw [if_neg e2, if_neg (by omega)]
        exact hmin k k0 hk e1
    · rw [if_neg e1]
      by_cases e2 : k = j
      · subst e2; exact absurd hp e1
      · rw [if_neg e2]
        by_cases e3 : k = i
        · subst e3
          rw [if_pos rfl]
          exact h.2 j hj0 hj hp k0
        · rw [if_neg e3]
          exact h.1 k k0 hk e1
  · rw [swapQ_len] at hk
    rw [cst_swap q hi hj, cst_swap q hi hj, hp, if_neg (by omega), if_pos rfl, if_neg (by omega), if_neg (by omega)]
    have := h.1 k k0 hk (by omega)
    rw [hpk] at this
    exact this

/-- the first one goes last; the others, the last one at their head -/
theorem pop_start {q : Wq} {n : Nat} (h : IsHp q) (hn : q.length = n + 1) : ∃ r, swapQ q 0 n = r ++ [q.getD 0 (0, 0)] ∧ r.length = n ∧ DnInv r 0 ∧ ∀ x, x ∈ q ↔ x ∈ r ∨ x = q.getD 0 (0, 0) := by
  have h0 : 0 < q.length := by omega
  have hl : n < q.length := by omega
  have hlen : (swapQ q 0 n).length = n + 1 := by rw [swapQ_len, hn]
  refine ⟨(swapQ q 0 n).take n, ?_, by rw [List.length_take, hlen]; omega, ?_, ?_⟩
  · apply List.ext_getElem?
    intro k
    by_cases hk : k < n
    · rw [List.getElem?_append_left (by rw [List.length_take, hlen]; omega), List.getElem?_take, if_pos hk]
    · by_cases e : k = n
      · subst e
        rw [List.getElem?_append_right (by rw [List.length_take, hlen]; omega), List.length_take, hlen, show k - min k (k + 1) = 0 by omega]
        have := swapQ_at q (k := k) h0 hl
        rw [if_pos rfl, List.getD_eq_getElem?_getD, List.getElem?_eq_getElem (by omega)] at this
        rw [List.getElem?_eq_getElem (by omega)]
        simpa using this
      · rw [List.getElem?_eq_none (by omega), List.getElem?_eq_none (by rw [List.length_append, List.length_take, hlen]; simp; omega)]
  · have hc : ∀ k, k < n → cst ((swapQ q 0 n).take n) k = if k = 0 then cst q n else cst q k := by
      intro k hk
      have : cst ((swapQ q 0 n).take n) k = cst (swapQ q 0 n) k := by
        unfold cst
        rw [List.getD_eq_getElem?_getD, List.getD_eq_getElem?_getD, List.getElem?_take, if_pos hk]
      rw [this, cst_swap q h0 hl, if_neg (by omega)]
    refine ⟨fun k k0 hk hne => ?_, fun k _ _ _ hpos => absurd hpos (by omega)⟩
    have hk' : k < n := by rw [List.length_take, hlen] at hk; omega
    rw [hc k hk', hc _ (by omega), if_neg hne, if_neg (show ¬ k = 0 by omega)]
    exact h k k0 (by omega)
  · intro x
    have hs := (swapQ_same q h0 hl).2 x
    rw [← hs]
    constructor
    · intro hx
      obtain ⟨k, hk, rfl⟩ := mem_iff_getD.1 hx
      by_cases e : k = n
      · subst e
        right
        rw [swapQ_at q h0 hl, if_pos rfl]
      · left
        refine mem_iff_getD.2 ⟨k, by rw [List.length_take, hlen]; omega, ?_⟩
        rw [List.getD_eq_getElem?_getD, List.getD_eq_getElem?_getD, List.getElem?_take, if_pos (by omega)]
    · rintro (hx | rfl)
      · exact List.mem_of_mem_take hx
      · exact mem_iff_getD.2 ⟨n, by omega, by rw [swapQ_at q h0 hl, if_pos rfl]⟩
theorem swapQ_app {r : Wq} {x : Int × Int} {i j : Nat} (hi : i < r.length) (hj : j < r.length) : swapQ (r ++ [x]) i j = swapQ r i j ++ [x] := by
  have e1 : (r ++ [x]).getD i (0, 0) = r.getD i (0, 0) := by simp [List.getD_eq_getElem?_getD, List.getElem?_append_left hi]
  have e2 : (r ++ [x]).getD j (0, 0) = r.getD j (0, 0) := by simp [List.getD_eq_getElem?_getD, List.getElem?_append_left hj]
  unfold swapQ
  rw [e1, e2, List.set_append_left _ _ hi, List.set_append_left _ _ (by simpa using hj)]
#print axioms pop_start
end Go.Proofs.Ytmdcfiejkbhgpaa
