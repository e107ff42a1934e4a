/-
  Words on memory: what was there stays; a slice reads as a list; a row that the call has made, element by element; the first place at which a test holds. No function of the program is named.
-/
import Derived.Test.YtmdcfiejkbhgpaaProg
import Derived.WalkKit
import Derived.WalkLawsBesides
import Derived.WalkSpells
import Derived.Handy
import Derived.Lib.Hide
import Derived.Lib.SliceRun
import Derived.Maps.AppendAt
import Derived.Deep.AppendLies
import Derived.Deep.QuietTactic
import Derived.BigQuiet
import Derived.Deep.RegionHeld3
namespace Go.Proofs.Ytmdcfiejkbhgpaa
open Go.RowKit

theorem ret_bool {a b : Bool} (h : a = b) : Ending.returned (.bool a) = Ending.returned (.bool b) := by rw [h]
theorem ret_int {k : IntKind} {a b : Int} (h : a = b) : Ending.returned (.int k a) = Ending.returned (.int k b) := by rw [h]

theorem enters_any {f : FuncId} {fn : Func} {c : Code} (h : Try.prog.funcs[f]? = some fn) (hname : (fn.name == "runtime.NumGoroutine") = false) (hb : fn.body = some c) (args : Array Value) (w : World) :
    (callFunc f args).run Try.prog w = .ok (.enter f args) w := by
  have h1 : fn.name ≠ "runtime.NumGoroutine" := by simpa using hname
  simp [callFunc, h, h1, hb, mark]

/-! ### the first place at which a test holds -/
/-- the first place below n at which p holds; -1: none -/
def firstIdx (p : Nat → Bool) (n : Nat) : Int := match (List.range n).find? p with | some i => (i : Int) | none => -1

theorem firstIdx_none {p : Nat → Bool} {n : Nat} (h : ∀ i, i < n → p i = false) : firstIdx p n = -1 := by
  have : (List.range n).find? p = none := by
    rw [List.find?_eq_none]; intro x hx; have := h x (List.mem_range.1 hx); simp [this]
  simp [firstIdx, this]
theorem firstIdx_some {p : Nat → Bool} {n i : Nat} (hi : i < n) (hp : p i = true) (h : ∀ j, j < i → p j = false) : firstIdx p n = i := by
  have : (List.range n).find? p = some i := List.find?_range_eq_some.2 ⟨hp, List.mem_range.2 hi, fun j hj => by rw [h j hj]; rfl⟩
  simp [firstIdx, this]
theorem firstIdx_cases (p : Nat → Bool) (n : Nat) : (firstIdx p n = -1 ∧ ∀ i, i < n → p i = false) ∨ ∃ i : Nat, firstIdx p n = (i : Int) ∧ i < n ∧ p i = true ∧ ∀ j, j < i → p j = false := by
  cases hf : (List.range n).find? p with
  | none =>
    refine .inl ⟨by simp [firstIdx, hf], fun i hi => ?_⟩
    have := List.find?_eq_none.1 hf i (List.mem_range.2 hi)
    simpa using this
  | some i =>
    obtain ⟨h1, h2, h3⟩ := List.find?_range_eq_some.1 hf
    exact .inr ⟨i, by simp [firstIdx, hf], List.mem_range.1 h2, h1, fun j hj => by simpa using h3 j hj⟩
theorem firstIdx_ge {p : Nat → Bool} {n : Nat} : decide (0 ≤ firstIdx p n) = (List.range n).any p := by
  rcases firstIdx_cases p n with ⟨h1, h2⟩ | ⟨i, h1, h2, h3, _⟩
  · have h : (List.range n).any p = false := List.any_eq_false.2 fun x hx => by rw [h2 x (List.mem_range.1 hx)]; simp
    rw [h1, h]; rfl
  · have h : (List.range n).any p = true := List.any_eq_true.2 ⟨i, List.mem_range.2 h2, h3⟩
    rw [h1, h]; simp
theorem firstIdx_bd (p : Nat → Bool) (n : Nat) : -1 ≤ firstIdx p n ∧ firstIdx p n < n := by
  rcases firstIdx_cases p n with ⟨h1, _⟩ | ⟨i, h1, h2, _, _⟩
  · rw [h1]; omega
  · rw [h1]; omega
theorem range_any {α : Type} (l : List α) (d : α) (p : α → Bool) : ((List.range l.length).any fun i => p (l.getD i d)) = l.any p := by
  rw [Bool.eq_iff_iff]
  simp only [List.any_eq_true, List.mem_range]
  constructor
  · rintro ⟨i, hi, h⟩
    exact ⟨l[i], List.getElem_mem _, by simpa [List.getD_eq_getElem?_getD, List.getElem?_eq_getElem hi] using h⟩
  · rintro ⟨x, hx, h⟩
    obtain ⟨i, hi, rfl⟩ := List.getElem_of_mem hx
    exact ⟨i, hi, by simpa [List.getD_eq_getElem?_getD, List.getElem?_eq_getElem hi] using h⟩
theorem getD_of {α : Type} {l : List α} {k : Nat} {x d : α} (h : l[k]? = some x) : l.getD k d = x := by
  rw [List.getD_eq_getElem?_getD, h]; rfl
theorem take_snoc {α : Type} {l : List α} {k : Nat} {x : α} (h : l[k]? = some x) : l.take (k + 1) = l.take k ++ [x] := by
  obtain ⟨hk, rfl⟩ := List.getElem?_eq_some_iff.1 h
  rw [List.take_succ_eq_append_getElem hk]
theorem at_lt {α : Type} {l : List α} {k n : Nat} (hl : l.length = n) (h : k < n) : ∃ x, l[k]? = some x := ⟨l[k], List.getElem?_eq_getElem (by omega)⟩

/-! ### worlds -/
theorem grown_of_below {w w' : World} (h : Below w.heap.size w w') (row : Option Nat) : w.grownBy w' row := ⟨h.os, h.tape, h.output, h.size, fun k hk _ => h.block k hk⟩
theorem grown_trans {a b c : World} {row : Option Nat} (h : a.grownBy b row) (k : b.grownBy c row) : a.grownBy c row :=
  ⟨k.os.trans h.os, k.tape.trans h.tape, k.output.trans h.output, Nat.le_trans h.size k.size, fun i hi hr => (k.block i (Nat.lt_of_lt_of_le hi h.size) hr).trans (h.block i hi hr)⟩
theorem below_next {B : Nat} {a b c : World} (h : Below B a b) (hB : B ≤ b.heap.size) (k : Below b.heap.size b c) : Below B a c := h.trans (k.mono hB)
theorem below_step {a b c : World} (h : Below a.heap.size a b) (k : Below b.heap.size b c) : Below a.heap.size a c := h.trans (k.mono h.size)

/-! ### lists of elements as cells -/
/-- the cells of elements, one behind the other -/
def flatE {α : Type} (enc : α → List Value) (l : List α) : List Value := l.flatMap enc

section
variable {α : Type} {enc : α → List Value} {k : Nat}
theorem flatE_nil : flatE enc [] = [] := rfl
theorem flatE_cons (x : α) (l : List α) : flatE enc (x :: l) = enc x ++ flatE enc l := rfl
theorem flatE_append (l m : List α) : flatE enc (l ++ m) = flatE enc l ++ flatE enc m := by simp [flatE]
theorem flatE_one (x : α) : flatE enc [x] = enc x := by simp [flatE]
theorem flatE_length (hk : ∀ x, (enc x).length = k) (l : List α) : (flatE enc l).length = l.length * k := by
  induction l with
  | nil => simp [flatE]
  | cons x l ih => rw [flatE_cons, List.length_append, hk, ih, List.length_cons, Nat.add_mul]; omega
theorem flatE_at (hk : ∀ x, (enc x).length = k) {l : List α} {i j : Nat} {x : α} (h : l[i]? = some x) (hj : j < k) : (flatE enc l)[i * k + j]? = (enc x)[j]? := by
  induction l generalizing i with
  | nil => simp at h
  | cons y l ih =>
    rw [flatE_cons]
    cases i with
    | zero =>
      simp at h; subst h
      rw [Nat.zero_mul, Nat.zero_add, List.getElem?_append_left (by rw [hk]; exact hj)]
    | succ i =>
      have h' : l[i]? = some x := by simpa using h
      rw [List.getElem?_append_right (by rw [hk, Nat.add_mul]; omega), hk, show (i + 1) * k + j - k = i * k + j by rw [Nat.add_mul]; omega]
      exact ih h'
theorem flatE_take (hk : ∀ x, (enc x).length = k) (l : List α) (m : Nat) : flatE enc (l.take m) = (flatE enc l).take (m * k) := by
  induction l generalizing m with
  | nil => simp [flatE]
  | cons y l ih =>
    cases m with
    | zero => simp [flatE]
    | succ m =>
      rw [List.take_succ_cons, flatE_cons, ih, flatE_cons, show (m + 1) * k = (enc y).length + m * k by rw [hk, Nat.add_mul]; omega, List.take_length_add_append]
theorem flatE_one' {hone : ∀ x, ∀ u ∈ enc x, u.oneCell' = true} (l : List α) : ∀ u ∈ flatE enc l, u.oneCell' = true := by
  intro u hu
  obtain ⟨x, _, h⟩ := List.mem_flatMap.1 hu
  exact hone x u h

/-- the list with these values from place o on -/
def setAll (xs : List Value) : Nat → List Value → List Value
  | _, [] => xs
  | o, v :: vs => setAll (xs.set o v) (o + 1) vs
theorem setAll_at (vs : List Value) : ∀ (xs : List Value) (o q : Nat), (setAll xs o vs)[q]? = if o ≤ q ∧ q < o + vs.length ∧ q < xs.length then vs[q - o]? else xs[q]? := by
  induction vs with
  | nil => intro xs o q; rw [setAll, if_neg (by simp; omega)]
  | cons v vs ih =>
    intro xs o q
    rw [setAll, ih, List.length_set, List.getElem?_set]
    by_cases hq : o = q
    · subst hq
      rw [if_neg (by omega), if_pos rfl]
      by_cases h : o < xs.length
      · rw [if_pos h, if_pos (by simp; omega)]; simp
      · rw [if_neg h, if_neg (by omega), List.getElem?_eq_none (by omega)]
    · rw [if_neg hq]
      by_cases h : o + 1 ≤ q ∧ q < o + 1 + vs.length ∧ q < xs.length
      · rw [if_pos h, if_pos (by simp; omega), show q - o = (q - (o + 1)) + 1 by omega]; simp
      · rw [if_neg h, if_neg (by simp; omega)]
theorem flatE_set (hk : ∀ x, (enc x).length = k) (l : List α) (i : Nat) (x : α) (hi : i < l.length) : flatE enc (l.set i x) = setAll (flatE enc l) (i * k) (enc x) := by
  induction l generalizing i with
  | nil => simp at hi
  | cons y l ih =>
    apply List.ext_getElem?
    intro q
    rw [setAll_at, hk, flatE_length hk, List.length_cons]
    cases i with
    | zero =>
      rw [List.set_cons_zero, flatE_cons, flatE_cons, Nat.zero_mul, Nat.zero_add]
      by_cases hq : q < k
      · rw [if_pos ⟨by omega, hq, by rw [Nat.add_mul]; omega⟩, List.getElem?_append_left (by rw [hk]; exact hq)]; rfl
      · rw [if_neg (by omega), List.getElem?_append_right (by rw [hk]; omega), List.getElem?_append_right (by rw [hk]; omega), hk, hk]
    | succ i =>
      have hi' : i < l.length := by simpa using hi
      have hik : i * k + k ≤ l.length * k := by have := Nat.mul_le_mul_right k (show i + 1 ≤ l.length by omega); rw [Nat.add_mul] at this; omega
      rw [List.set_cons_succ, flatE_cons, flatE_cons]
      have e1 : (i + 1) * k = i * k + k := by rw [Nat.add_mul]; omega
      have e2 : (l.length + 1) * k = l.length * k + k := by rw [Nat.add_mul]; omega
      rw [e1, e2]
      by_cases hq : q < k
      · rw [if_neg (by omega), List.getElem?_append_left (by rw [hk]; exact hq), List.getElem?_append_left (by rw [hk]; exact hq)]
      · rw [List.getElem?_append_right (by rw [hk]; omega), List.getElem?_append_right (by rw [hk]; omega), hk, ih i hi', setAll_at, hk, flatE_length hk]
        by_cases h : i * k ≤ q - k ∧ q - k < i * k + k ∧ q - k < l.length * k
        · rw [if_pos h, if_pos (by omega), show q - k - i * k = q - (i * k + k) by omega]
        · rw [if_neg h, if_neg (by omega)]
end

/-! ### a slice reads as a list -/
/-- a slice of elements of k cells each reads as a list -/
def Rd {α : Type} (enc : α → List Value) (k : Nat) (w : World) (A : Option Addr) (n : Nat) (l : List α) : Prop :=
  l.length = n ∧ ∀ i x, l[i]? = some x → ∃ b off, A = some ⟨b, off, none⟩ ∧ ∀ j u, (enc x)[j]? = some u → w.cell? ⟨b, off + i * k + j, none⟩ = some u

section
variable {α : Type} {enc : α → List Value} {k : Nat}
theorem Rd.below {w w' : World} {A : Option Addr} {n : Nat} {l : List α} (h : Rd enc k w A n l) (hb : Below w.heap.size w w') : Rd enc k w' A n l :=
  ⟨h.1, fun i x hx => by
    obtain ⟨b, off, hA, hc⟩ := h.2 i x hx
    exact ⟨b, off, hA, fun j u hu => (hb.cell (World.block_lt_of_cell? w _ (hc j u hu))).trans (hc j u hu)⟩⟩
theorem Rd.nil (w : World) (A : Option Addr) : Rd enc k w A 0 [] := ⟨rfl, fun i x h => by simp at h⟩
theorem Rd.take {w : World} {A : Option Addr} {n m : Nat} {l : List α} (h : Rd enc k w A n l) (hm : m ≤ n) : Rd enc k w A m (l.take m) :=
  ⟨by rw [List.length_take, h.1]; omega, fun i x hx => by
    rw [List.getElem?_take] at hx
    split at hx
    · exact h.2 i x hx
    · cases hx⟩
theorem Rd.at_ {w : World} {A : Option Addr} {n i : Nat} {l : List α} (h : Rd enc k w A n l) (hi : i < n) :
    ∃ x b off, l[i]? = some x ∧ A = some ⟨b, off, none⟩ ∧ ∀ j u, (enc x)[j]? = some u → w.cell? ⟨b, off + i * k + j, none⟩ = some u := by
  obtain ⟨x, hx⟩ := at_lt h.1 hi
  obtain ⟨b, off, h1, h2⟩ := h.2 i x hx
  exact ⟨x, b, off, hx, h1, h2⟩
theorem Rd.nil_of {w : World} {n : Nat} {l : List α} (h : Rd enc k w none n l) : l = [] ∧ n = 0 := by
  have hl : l = [] := by
    cases l with
    | nil => rfl
    | cons x l => obtain ⟨b, off, h, _⟩ := h.2 0 x rfl; cases h
  subst hl
  exact ⟨rfl, h.1.symm⟩
theorem Rd.of_own (hk : ∀ x, (enc x).length = k) (hk0 : 0 < k) {w : World} {base n : Nat} {e : TypeId} {v : Value} {l : List α} (h : w.ownsRow base e k v n (flatE enc l)) :
    ∃ A c, v = .slice A n c ∧ n ≤ c ∧ Rd enc k w A n l := by
  have hl : l.length = n := by have := h.1; rw [flatE_length hk] at this; exact Nat.eq_of_mul_eq_mul_right hk0 this
  rcases h.2 with ⟨rfl, rfl⟩ | ⟨g, cap, cur, rfl, hb, hg, hn, hc, hs, ht⟩
  · have : l = [] := List.eq_nil_of_length_eq_zero hl
    subst this
    exact ⟨none, 0, rfl, Nat.le_refl _, Rd.nil _ _⟩
  · refine ⟨some ⟨g, 0, none⟩, cap, rfl, hn, hl, fun i x hx => ⟨g, 0, rfl, fun j u hu => ?_⟩⟩
    have hi : i < n := by have := (List.getElem?_eq_some_iff.1 hx).1; omega
    have hj : j < k := by have := (List.getElem?_eq_some_iff.1 hu).1; rwa [hk] at this
    have hik : i * k + k ≤ n * k := by have := Nat.mul_le_mul_right k (show i + 1 ≤ n by omega); rw [Nat.add_mul] at this; omega
    rw [Nat.zero_add, h.cellAt _ (by omega), flatE_at hk hx hj]
    exact hu
/-- all cells of a slice that is not empty, from its address on -/
theorem Rd.cells (hk : ∀ x, (enc x).length = k) (hk0 : 0 < k) {w : World} {b off n : Nat} {l : List α} (h : Rd enc k w (some ⟨b, off, none⟩) n l) :
    ∀ j u, (flatE enc l)[j]? = some u → w.cell? ((⟨b, off, none⟩ : Addr).add j) = some u := by
  intro j u hu
  have hadd : (⟨b, off, none⟩ : Addr).add j = ⟨b, off + j, none⟩ := by unfold Addr.add; split <;> simp_all
  rw [hadd]
  have hj : j < l.length * k := by have := (List.getElem?_eq_some_iff.1 hu).1; rwa [flatE_length hk] at this
  have hdiv : j / k < l.length := (Nat.div_lt_iff_lt_mul hk0).2 hj
  obtain ⟨x, hx⟩ := at_lt rfl hdiv
  obtain ⟨b', off', hA, hc⟩ := h.2 _ x hx
  obtain ⟨rfl, rfl⟩ : b = b' ∧ off = off' := by simpa using hA
  have hmod := Nat.mod_lt j hk0
  have hjj : j / k * k + j % k = j := Nat.div_add_mod' j k
  have h2 := flatE_at hk hx hmod
  rw [hjj, hu] at h2
  have := hc _ _ h2.symm
  rwa [show off + j / k * k + j % k = off + j by omega] at this
end

/-! ### rows of the call's own -/
theorem own_below {w w' : World} {base n : Nat} {e : TypeId} {size : Nat} {v : Value} {xs : List Value} (h : w.ownsRow base e size v n xs) (hb : Below w.heap.size w w') : w'.ownsRow base e size v n xs :=
  h.kept (grown_of_below hb none) (by cases hv : v.ownBlock <;> simp)
theorem own_shorter {w : World} {base g n m cap : Nat} {e : TypeId} {size : Nat} {xs : List Value} (h : w.ownsRow base e size (.slice (some ⟨g, 0, none⟩) n cap) n xs) (hm : m ≤ n) :
    w.ownsRow base e size (.slice (some ⟨g, 0, none⟩) m cap) m (xs.take (m * size)) := by
  rcases h.2 with ⟨h0, _⟩ | ⟨g', cap', cur, hv, hb, hg, hn, hc, hs, ht⟩
  · cases h0
  · cases hv
    have hle : m * size ≤ n * size := Nat.mul_le_mul_right _ hm
    refine ⟨by rw [List.length_take, h.1]; omega, .inr ⟨g, cap, cur, rfl, hb, hg, by omega, hc, hs, ?_⟩⟩
    rw [← ht, List.take_take, Nat.min_eq_left hle]
theorem own_form {w : World} {base n : Nat} {e : TypeId} {size : Nat} {v : Value} {xs : List Value} (h : w.ownsRow base e size v n xs) :
    (v = .slice none 0 0 ∧ n = 0) ∨ ∃ g cap, v = .slice (some ⟨g, 0, none⟩) n cap ∧ base ≤ g ∧ g < w.heap.size ∧ n ≤ cap ∧ cap ≤ maxLen := by
  rcases h.2 with h0 | ⟨g, cap, cur, hv, hb, hg, hn, hc, _⟩
  · exact .inl h0
  · exact .inr ⟨g, cap, hv, hb, (Array.getElem?_eq_some_iff.1 hg).1, hn, hc⟩
theorem own_mono {w : World} {base base' n : Nat} {e : TypeId} {size : Nat} {v : Value} {xs : List Value} (h : w.ownsRow base e size v n xs) (hb : base' ≤ base) : w.ownsRow base' e size v n xs := by
  refine ⟨h.1, ?_⟩
  rcases h.2 with h0 | ⟨g, cap, cur, hv, hg, r⟩
  · exact .inl h0
  · exact .inr ⟨g, cap, cur, hv, by omega, r⟩
/-- a row that an append has just laid -/
theorem own_grown {w : World} {base g cap n size : Nat} {e : TypeId} {cs z : Array Value} (hg : w.heap[g]? = some (.cells (cs ++ Builtin.zeroCells z (cap - n)) e (0, 0))) (hb : base ≤ g) (hn : n ≤ cap) (hm : cap ≤ maxLen)
    (hcs : cs.size = n * size) (hz : z.size = size) : w.ownsRow base e size (.slice (some ⟨g, 0, none⟩) n cap) n cs.toList := by
  refine ⟨by simpa using hcs, .inr ⟨g, cap, _, rfl, hb, hg, hn, hm, ?_, ?_⟩⟩
  · rw [Array.size_append, size_zeroCells, hcs, hz, ← Nat.add_mul]
    congr 1
    omega
  · rw [Array.toList_append, ← hcs]
    exact List.take_left
/-- the cells of a block that has just been laid -/
theorem new_cells (w : World) (cs : List Value) (t : TypeId) : ∀ j u, cs[j]? = some u → (w.alloc (.cells cs.toArray t)).cell? ((⟨w.heap.size, 0, none⟩ : Addr).add j) = some u := by
  intro j u hu
  have hadd : (⟨w.heap.size, 0, none⟩ : Addr).add j = ⟨w.heap.size, j, none⟩ := by unfold Addr.add; split <;> simp_all
  rw [hadd]
  simp [hu]
/-- what an append leaves of old memory -/
theorem below_append {w w0 w1 : World} {base n : Nat} {e : TypeId} {size : Nat} {v : Value} {xs : List Value} {o : Obj} (hb : Below base w0 w) (hB : base ≤ w.heap.size) (hown : w.ownsRow base e size v n xs) (hg : (w.alloc o).grownBy w1 v.ownBlock) : Below base w0 w1 :=
  (hb.alloc hB o).grown hg (by simp; omega) (fun k hk => (hown.lt k hk).1)

end Go.Proofs.Ytmdcfiejkbhgpaa
