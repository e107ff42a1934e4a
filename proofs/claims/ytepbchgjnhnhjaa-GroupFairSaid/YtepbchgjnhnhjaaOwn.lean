/-
  Slices of ways that the call itself has made: their cells as a list, a store into an element, clearing the end.
-/
import Derived.Test.YtepbchgjnhnhjaaShare
import Derived.Lib.SliceRun
import Derived.Maps.AppendAt
import Derived.Deep.AppendLies
namespace Go.Proofs.Ytepbchgjnhnhjaa
open Go.RowKit

/-- the cells of ways, one behind the other -/
def flat (l : List (Int × Int)) : List Value := l.flatMap fun x => [.int .i64 x.1, .int .i64 x.2]

theorem flat_length (l : List (Int × Int)) : (flat l).length = l.length * 2 := by
  induction l with
  | nil => rfl
  | cons x l ih => simp only [flat, List.flatMap_cons, List.length_append, List.length_cons, List.length_nil] at ih ⊢; omega
theorem flat_cons (x : Int × Int) (l : List (Int × Int)) : flat (x :: l) = .int .i64 x.1 :: .int .i64 x.2 :: flat l := rfl
theorem flat_append (l m : List (Int × Int)) : flat (l ++ m) = flat l ++ flat m := by simp [flat]
theorem flat_at {l : List (Int × Int)} {i : Nat} {x : Int × Int} (h : l[i]? = some x) : (flat l)[i * 2]? = some (.int .i64 x.1) ∧ (flat l)[i * 2 + 1]? = some (.int .i64 x.2) := by
  induction l generalizing i with
  | nil => simp at h
  | cons y l ih =>
    rw [flat_cons]
    cases i with
    | zero => simp at h; subst h; exact ⟨rfl, rfl⟩
    | succ i =>
      have := ih (by simpa using h)
      rw [show (i + 1) * 2 = i * 2 + 2 by omega, show i * 2 + 2 + 1 = i * 2 + 1 + 2 by omega]
      exact this
theorem flat_set (l : List (Int × Int)) (i : Nat) (x : Int × Int) : flat (l.set i x) = ((flat l).set (i * 2) (.int .i64 x.1)).set (i * 2 + 1) (.int .i64 x.2) := by
  induction l generalizing i with
  | nil => simp [flat]
  | cons y l ih =>
    cases i with
    | zero => simp [flat_cons]
    | succ i =>
      rw [List.set_cons_succ, flat_cons, ih, flat_cons, show (i + 1) * 2 = i * 2 + 1 + 1 by omega, show i * 2 + 1 + 1 + 1 = (i * 2 + 1) + 1 + 1 by omega]
      simp only [List.set_cons_succ]
theorem flat_take (l : List (Int × Int)) (k : Nat) : flat (l.take k) = (flat l).take (k * 2) := by
  induction l generalizing k with
  | nil => simp [flat]
  | cons y l ih =>
    cases k with
    | zero => simp [flat]
    | succ k => rw [List.take_succ_cons, flat_cons, ih, flat_cons, show (k + 1) * 2 = k * 2 + 1 + 1 by omega]; simp only [List.take_succ_cons]

theorem flat_one (l : List (Int × Int)) : ∀ u ∈ flat l, u.oneCell' = true := by
  intro u hu
  simp only [flat, List.mem_flatMap, List.mem_cons, List.not_mem_nil, or_false] at hu
  obtain ⟨x, _, h | h⟩ := hu <;> rw [h] <;> rfl

theorem new_way (w : World) (x : Int × Int) (t : TypeId) : ∀ j u, (flat [x])[j]? = some u → (w.alloc (.cells #[.int .i64 x.1, .int .i64 x.2] t)).cell? ((⟨w.heap.size, 0, none⟩ : Addr).add j) = some u := by
  intro j u hu
  match j, hu with
  | 0, hu => simp [flat] at hu; subst hu; simp [Addr.add]
  | 1, hu => simp [flat] at hu; subst hu; simp [Addr.add]
  | j + 2, hu => simp [flat] at hu

theorem Ways.of_own {w : World} {base n : Nat} {v : Value} {l : List (Int × Int)} (h : w.ownsRow base 37 2 v n (flat l)) : ∃ A c, v = .slice A n c ∧ n ≤ c ∧ Ways w A n l := by
  have hl : l.length = n := by have := h.1; rw [flat_length] at this; omega
  rcases h.2 with ⟨rfl, rfl⟩ | ⟨g, cap, cur, rfl, hb, hg, hn, hc, hs, ht⟩
  · have : l = [] := List.eq_nil_of_length_eq_zero hl
    subst this
    exact ⟨none, 0, rfl, Nat.le_refl _, rfl, fun i x hx => by simp at hx⟩
  · refine ⟨some ⟨g, 0, none⟩, cap, rfl, hn, hl, fun i x hx => ⟨g, 0, rfl, ?_, ?_⟩⟩
    · have hi : i < n := by have := (List.getElem?_eq_some_iff.1 hx).1; omega
      rw [Nat.zero_add, h.cellAt _ (by omega)]
      exact (flat_at hx).1
    · have hi : i < n := by have := (List.getElem?_eq_some_iff.1 hx).1; omega
      rw [Nat.zero_add, h.cellAt _ (by omega)]
      exact (flat_at hx).2

theorem grown_of_below {w w' : World} (h : Below w.heap.size w w') (row : Option Nat) : w.grownBy w' row := ⟨h.os, h.tape, h.output, h.size, fun k hk _ => h.block k hk⟩
theorem grown_trans {a b c : World} {row : Option Nat} (h : a.grownBy b row) (k : b.grownBy c row) : a.grownBy c row :=
  ⟨k.os.trans h.os, k.tape.trans h.tape, k.output.trans h.output, Nat.le_trans h.size k.size, fun i hi hr => (k.block i (Nat.lt_of_lt_of_le hi h.size) hr).trans (h.block i hi hr)⟩
theorem own_below {w w' : World} {base n : Nat} {e : TypeId} {size : Nat} {v : Value} {xs : List Value} (h : w.ownsRow base e size v n xs) (hb : Below w.heap.size w w') : w'.ownsRow base e size v n xs :=
  h.kept (grown_of_below hb none) (by cases hv : v.ownBlock <;> simp)

/-- a piece of a row, shorter -/
theorem own_shorter {w : World} {base g n m cap : Nat} {e : TypeId} {size : Nat} {xs : List Value} (h : w.ownsRow base e size (.slice (some ⟨g, 0, none⟩) n cap) n xs) (hm : m ≤ n) :
    w.ownsRow base e size (.slice (some ⟨g, 0, none⟩) m cap) m (xs.take (m * size)) := by
  rcases h.2 with ⟨h0, _⟩ | ⟨g', cap', cur, hv, hb, hg, hn, hc, hs, ht⟩
  · cases h0
  · cases hv
    have hle : m * size ≤ n * size := Nat.mul_le_mul_right _ hm
    refine ⟨by rw [List.length_take, h.1]; omega, .inr ⟨g, cap, cur, rfl, hb, hg, by omega, hc, hs, ?_⟩⟩
    rw [← ht, List.take_take, Nat.min_eq_left hle]

theorem setCells_blk (g : Nat) (e : TypeId) (fr : Nat × Nat) : ∀ (vs : List Value) (o : Nat) (w : World) (cur : Array Value), w.heap[g]? = some (.cells cur e fr) →
    ∃ cur', (w.setCells g o vs).heap[g]? = some (.cells cur' e fr) ∧ cur'.size = cur.size ∧ (∀ j, j < o → cur'[j]? = cur[j]?) := by
  intro vs
  induction vs with
  | nil => intro o w cur h; exact ⟨cur, h, rfl, fun _ _ => rfl⟩
  | cons v vs ih =>
    intro o w cur h
    have h1 : (w.setCell ⟨g, o, none⟩ v).heap[g]? = some (.cells (cur.setIfInBounds o v) e fr) := by
      simp [World.setCell, Array.getElem?_modify, h]
    obtain ⟨cur', h2, h3, h4⟩ := ih (o + 1) _ _ h1
    refine ⟨cur', h2, by simpa using h3, fun j hj => ?_⟩
    rw [h4 j (by omega), Array.getElem?_setIfInBounds, if_neg (by omega)]

theorem setCells_grown (g : Nat) : ∀ (vs : List Value) (o : Nat) (w : World), w.grownBy (w.setCells g o vs) (some g) := by
  intro vs
  induction vs with
  | nil => intro o w; exact ⟨rfl, rfl, rfl, Nat.le_refl _, fun _ _ _ => rfl⟩
  | cons v vs ih =>
    intro o w
    have h1 : w.grownBy (w.setCell ⟨g, o, none⟩ v) (some g) := ⟨rfl, rfl, rfl, by simp [World.setCell], fun k _ hk => Below.heap_setCell w _ v k (fun h => hk (by rw [h]))⟩
    exact grown_trans h1 (ih (o + 1) _)

theorem own_setCells {w : World} {base g n m cap : Nat} {e : TypeId} {size : Nat} {xs : List Value} (h : w.ownsRow base e size (.slice (some ⟨g, 0, none⟩) n cap) n xs) (hm : m ≤ n) (vs : List Value) :
    (w.setCells g (m * size) vs).ownsRow base e size (.slice (some ⟨g, 0, none⟩) m cap) m (xs.take (m * size)) := by
  rcases h.2 with ⟨h0, _⟩ | ⟨g', cap', cur, hv, hb, hg, hn, hc, hs, ht⟩
  · cases h0
  · cases hv
    have hle : m * size ≤ n * size := Nat.mul_le_mul_right _ hm
    obtain ⟨cur', h1, h2, h3⟩ := setCells_blk g e (0, 0) vs (m * size) w cur hg
    refine ⟨by rw [List.length_take, h.1]; omega, .inr ⟨g, cap, cur', rfl, hb, h1, by omega, hc, by rw [h2, hs], ?_⟩⟩
    rw [← ht, List.take_take, Nat.min_eq_left hle]
    apply List.ext_getElem?
    intro j
    rw [List.getElem?_take, List.getElem?_take]
    split
    · rename_i hj
      simpa using h3 j hj
    · rfl

end Go.Proofs.Ytepbchgjnhnhjaa
