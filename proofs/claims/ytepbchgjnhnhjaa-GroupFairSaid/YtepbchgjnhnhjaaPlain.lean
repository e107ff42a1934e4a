/-
  The plain law of the group statements: what the walks show the functions to compute, as functions on lists of (hop, weight), and why the four statements hold of these. No program in sight.
-/
import Derived.RowKit
namespace Go.Proofs.Ytepbchgjnhnhjaa

/-- the first place below n at which p holds; -1: none -/
def firstIdx (p : Nat → Bool) (n : Nat) : Int := match (List.range n).find? p with | some i => (i : Int) | none => -1

theorem firstIdx_none {p : Nat → Bool} {n : Nat} (h : ∀ i, i < n → p i = false) : firstIdx p n = -1 := by
  have : (List.range n).find? p = none := by
    rw [List.find?_eq_none]; intro x hx; have := h x (List.mem_range.1 hx); simp [this]
  simp [firstIdx, this]

theorem find_range {p : Nat → Bool} {n i : Nat} (hi : i < n) (hp : p i = true) (h : ∀ j, j < i → p j = false) : (List.range n).find? p = some i := by
  obtain ⟨m, rfl⟩ : ∃ m, n = i + (m + 1) := ⟨n - i - 1, by omega⟩
  rw [List.range_add, List.find?_append]
  have h1 : (List.range i).find? p = none := by
    rw [List.find?_eq_none]; intro x hx; have := h x (List.mem_range.1 hx); simp [this]
  rw [h1, List.range_succ_eq_map]
  simp [hp]

theorem firstIdx_some {p : Nat → Bool} {n i : Nat} (hi : i < n) (hp : p i = true) (h : ∀ j, j < i → p j = false) : firstIdx p n = i := by
  simp [firstIdx, find_range hi hp h]

theorem firstIdx_ge {p : Nat → Bool} {n : Nat} : decide (0 ≤ firstIdx p n) = (List.range n).any p := by
  cases hf : (List.range n).find? p with
  | none =>
    have h : (List.range n).any p = false := by
      rw [List.find?_eq_none] at hf
      rw [List.any_eq_false]
      exact hf
    simp [firstIdx, hf, h]
  | some i =>
    have h : (List.range n).any p = true := List.any_eq_true.2 ⟨i, List.mem_of_find?_eq_some hf, List.find?_some hf⟩
    rw [h]
    simp [firstIdx, hf]

namespace Grp
open Go.RowKit (wrap64)

abbrev W := Int × Int

def wrong (w : W) : Bool := decide (w.1 < 0) || decide (w.2 < 1) || decide (255 < w.2)
/-- does the hop of place i stand ahead of it? -/
def dupAt (l : List W) (i : Nat) : Bool := (l.take i).any fun x => x.1 == (l.getD i (0, 0)).1
def twice (l : List W) : Bool := (List.range l.length).any (dupAt l)
def check (l : List W) : Int := if l.length < 1 ∨ 16 < l.length ∨ l.any wrong = true then 1 else if twice l = true then 32 else 0
def total (l : List W) : Int := l.foldl (fun n w => wrap64 (n + w.2)) 0
/-- the weights' sum, with no wrap -/
def sumW (l : List W) : Int := (l.map (·.2)).sum
def pick (l : List W) (hash : Int) : Int := if check l = 0 then firstIdx (fun i => decide (hash % sumW l - sumW (l.take (i + 1)) < 0)) l.length else -1
def shareAt (l : List W) (hop : Int) : Int := firstIdx (fun i => (l.getD i (0, 0)).1 == hop) l.length
def share (l : List W) (hop : Int) : Int := if shareAt l hop < 0 then 0 else (l.getD (shareAt l hop).toNat (0, 0)).2
def without (l : List W) (hop : Int) : List W := l.filter fun w => !(w.1 == hop)
def normBy (l : List W) : Int := l.foldl (fun b w => (Int.gcd b w.2 : Int)) 0
def norm (l : List W) : List W := if check l = 0 then l.map fun w => (w.1, w.2 / normBy l) else l

theorem sumW_snoc (l : List W) (x : W) : sumW (l ++ [x]) = sumW l + x.2 := by simp [sumW]
theorem total_snoc (l : List W) (x : W) : total (l ++ [x]) = wrap64 (total l + x.2) := by simp [total]
theorem wrong_of {l : List W} (h : check l = 0) {x : W} (hx : x ∈ l) : 0 ≤ x.1 ∧ 1 ≤ x.2 ∧ x.2 ≤ 255 := by
  unfold check at h
  split at h
  · cases h
  · rename_i hn
    have h2 : l.any wrong = false := by
      cases hw : l.any wrong
      · rfl
      · exact absurd (.inr (.inr hw)) hn
    have h3 := List.any_eq_false.1 h2 x hx
    simp only [wrong, Bool.or_eq_true, decide_eq_true_eq] at h3
    omega
theorem len_of {l : List W} (h : check l = 0) : 1 ≤ l.length ∧ l.length ≤ 16 := by
  unfold check at h
  split at h
  · cases h
  · rename_i hn
    exact ⟨by have : ¬ l.length < 1 := fun h => hn (.inl h); omega, by have : ¬ 16 < l.length := fun h => hn (.inr (.inl h)); omega⟩
theorem sumW_bd (l : List W) (h : ∀ x ∈ l, 1 ≤ x.2 ∧ x.2 ≤ 255) : l.length ≤ sumW l ∧ sumW l ≤ 255 * l.length := by
  induction l with
  | nil => simp [sumW]
  | cons x l ih =>
    have h1 := h x (List.mem_cons_self)
    have h2 := ih fun y hy => h y (List.mem_cons_of_mem _ hy)
    simp only [sumW, List.map_cons, List.sum_cons, List.length_cons] at h2 ⊢
    omega
theorem sumW_take_bd {l : List W} (h : check l = 0) (k : Nat) : 0 ≤ sumW (l.take k) ∧ sumW (l.take k) ≤ 4080 := by
  have h1 := sumW_bd (l.take k) fun x hx => (wrong_of h (List.mem_of_mem_take hx)).2
  have h2 := len_of h
  have h3 : (l.take k).length ≤ 16 := by rw [List.length_take]; omega
  omega
theorem sumW_all_bd {l : List W} (h : check l = 0) : 1 ≤ sumW l ∧ sumW l ≤ 4080 := by
  have h1 := sumW_bd l fun x hx => (wrong_of h hx).2
  have h2 := len_of h
  omega
theorem take_snoc {l : List W} {k : Nat} {x : W} (h : l[k]? = some x) : l.take (k + 1) = l.take k ++ [x] := by
  obtain ⟨hk, rfl⟩ := List.getElem?_eq_some_iff.1 h
  rw [List.take_succ_eq_append_getElem hk]
theorem total_take {l : List W} (h : check l = 0) (k : Nat) (hk : k ≤ l.length) : total (l.take k) = sumW (l.take k) := by
  induction k with
  | zero => simp [total, sumW]
  | succ k ih =>
    obtain ⟨x, hx⟩ : ∃ x, l[k]? = some x := ⟨l[k], List.getElem?_eq_getElem (by omega)⟩
    have h1 := sumW_take_bd h (k + 1)
    rw [take_snoc hx, sumW_snoc] at h1 ⊢
    rw [total_snoc, ih (by omega)]
    unfold wrap64
    omega
theorem total_eq {l : List W} (h : check l = 0) : total l = sumW l := by
  have := total_take h l.length (Nat.le_refl _)
  rwa [List.take_length] at this

theorem gcd_step (x y : Int) (hx : 0 ≤ x) (hy : 0 ≤ y) : Int.gcd y (x % y) = Int.gcd x y := by
  obtain ⟨a, rfl⟩ := Int.eq_ofNat_of_zero_le hx
  obtain ⟨b, rfl⟩ := Int.eq_ofNat_of_zero_le hy
  have h : ((a : Int) % (b : Int)) = ((a % b : Nat) : Int) := rfl
  rw [h, Int.gcd_natCast_natCast, Int.gcd_natCast_natCast, Nat.gcd_comm, ← Nat.gcd_rec, Nat.gcd_comm]

theorem normBy_snoc (l : List W) (x : W) : normBy (l ++ [x]) = (Int.gcd (normBy l) x.2 : Int) := by simp [normBy]
theorem normBy_nonneg (l : List W) : 0 ≤ normBy l := by
  rcases List.eq_nil_or_concat l with rfl | ⟨m, x, rfl⟩
  · simp [normBy]
  · rw [List.concat_eq_append, normBy_snoc]; omega
theorem normBy_dvd (l : List W) : ∀ x ∈ l, normBy l ∣ x.2 := by
  suffices h : ∀ k, k ≤ l.length → ∀ x ∈ l.take k, normBy (l.take k) ∣ x.2 by
    have := h l.length (Nat.le_refl _)
    rwa [List.take_length] at this
  intro k
  induction k with
  | zero => intro _ x hx; simp at hx
  | succ k ih =>
    intro hk x hx
    obtain ⟨y, hy⟩ : ∃ y, l[k]? = some y := ⟨_, List.getElem?_eq_getElem (by omega)⟩
    rw [take_snoc hy] at hx ⊢
    rw [normBy_snoc]
    rcases List.mem_append.1 hx with h | h
    · exact Int.dvd_trans (Int.gcd_dvd_left _ _) (ih (by omega) x h)
    · rw [List.mem_singleton.1 h]
      exact Int.gcd_dvd_right _ _
theorem normBy_max (l : List W) (c : Int) (h : ∀ x ∈ l, c ∣ x.2) : c ∣ normBy l := by
  suffices h' : ∀ k, k ≤ l.length → c ∣ normBy (l.take k) by
    have := h' l.length (Nat.le_refl _)
    rwa [List.take_length] at this
  intro k
  induction k with
  | zero => intro _; simp [normBy]
  | succ k ih =>
    intro hk
    obtain ⟨y, hy⟩ : ∃ y, l[k]? = some y := ⟨_, List.getElem?_eq_getElem (by omega)⟩
    rw [take_snoc hy, normBy_snoc]
    exact Int.dvd_coe_gcd (ih (by omega)) (h y (List.mem_of_getElem? hy))
theorem normBy_pos {l : List W} (h : check l = 0) : 1 ≤ normBy l ∧ normBy l ≤ 255 := by
  obtain ⟨x, hx⟩ : ∃ x, x ∈ l := by
    have := (len_of h).1
    exact ⟨l[0], List.getElem_mem _⟩
  have h1 := wrong_of h hx
  have h2 := normBy_dvd l x hx
  have h3 := Int.le_of_dvd (by omega) h2
  have h4 := normBy_nonneg l
  have h5 : normBy l ≠ 0 := by
    intro h0
    rw [h0] at h2
    have := Int.zero_dvd.1 h2
    omega
  omega

/-! the reference's own ways -/
def row (l : List W) : List Nat := (List.range l.length).flatMap fun i => List.replicate (l.getD i (0, 0)).2.toNat i
def goesIn (l : List W) (n : Nat) : Bool := l.all fun w => w.2 % (n : Int) == 0
def refBy (l : List W) : Int := if check l = 0 then (((List.range 255).reverse.map (· + 1)).find? (goesIn l)).getD 1 else 1
def refNorm (l : List W) : List W := l.map fun w => (w.1, w.2.tdiv (refBy l))

end Grp
end Go.Proofs.Ytepbchgjnhnhjaa
