/-
  Graphs: what a walk costs, the least costs. No program in sight.
-/
import Derived.Test.YtmdcfiejkbhgpaaMem
namespace Go.Proofs.Ytmdcfiejkbhgpaa

/-- a link -/
structure Lk where
  f : Int
  t : Int
  c : Int
deriving DecidableEq
instance : Inhabited Lk := ⟨⟨0, 0, 0⟩⟩
/-- each link costs something -/
def Pos (l : List Lk) : Prop := ∀ x ∈ l, 1 ≤ x.c
/-- a walk from s, what it costs -/
inductive Wk (l : List Lk) (s : Int) : Int → Int → Prop
  | nil : Wk l s s 0
  | snoc {u v c k : Int} : Wk l s u c → (⟨u, v, k⟩ : Lk) ∈ l → Wk l s v (c + k)
section
variable {l m : List Lk} {s u v : Int} {c k : Int}
theorem Wk.nonneg (hp : Pos l) (h : Wk l s v c) : 0 ≤ c := by
  induction h with
  | nil => exact Int.le_refl _
  | snoc _ hm ih => have := hp _ hm; simp only at this; omega
theorem Wk.mono (h : Wk l s v c) (hs : ∀ x ∈ l, x ∈ m) : Wk m s v c := by
  induction h with
  | nil => exact .nil
  | snoc _ hm ih => exact ih.snoc (hs _ hm)
theorem Wk.one (h : (⟨s, v, k⟩ : Lk) ∈ l) : Wk l s v k := by
  have := (Wk.nil (l := l) (s := s)).snoc h
  rwa [Int.zero_add] at this
theorem Wk.trans {d : Int} (h : Wk l s u c) (h' : Wk l u v d) : Wk l s v (c + d) := by
  induction h' with
  | nil => rwa [Int.add_zero]
  | snoc _ hm ih => have := ih.snoc hm; rwa [Int.add_assoc] at this
/-- its first link -/
theorem Wk.first (h : Wk l s v c) : (s = v ∧ c = 0) ∨ ∃ b k d, (⟨s, b, k⟩ : Lk) ∈ l ∧ Wk l b v d ∧ c = k + d := by
  induction h with
  | nil => exact .inl ⟨rfl, rfl⟩
  | snoc hw hm ih =>
    rcases ih with ⟨rfl, rfl⟩ | ⟨b, k, d, hb, hd, rfl⟩
    · exact .inr ⟨_, _, 0, hm, .nil, by omega⟩
    · exact .inr ⟨b, k, _, hb, hd.snoc hm, by omega⟩
/-- its last link -/
theorem Wk.last (h : Wk l s v c) : (s = v ∧ c = 0) ∨ ∃ b k d, Wk l s b d ∧ (⟨b, v, k⟩ : Lk) ∈ l ∧ c = d + k := by
  cases h with
  | nil => exact .inl ⟨rfl, rfl⟩
  | snoc hw hm => exact .inr ⟨_, _, _, hw, hm, rfl⟩
def turn (x : Lk) : Lk := ⟨x.t, x.f, x.c⟩
theorem Wk.turned (h : Wk l s v c) : Wk (l.map turn) v s c := by
  induction h with
  | nil => exact .nil
  | @snoc u v c k hw hm ih =>
    have h1 : (⟨v, u, k⟩ : Lk) ∈ l.map turn := List.mem_map.2 ⟨_, hm, rfl⟩
    have := (Wk.one h1).trans ih
    rwa [Int.add_comm] at this
theorem turn_turn (l : List Lk) : (l.map turn).map turn = l := by
  rw [List.map_map]
  have : turn ∘ turn = id := by funext x; cases x; rfl
  rw [this, List.map_id]
theorem wk_turn : Wk (l.map turn) v s c ↔ Wk l s v c :=
  ⟨fun h => by have := h.turned; rwa [turn_turn] at this, Wk.turned⟩
theorem pos_turn (h : Pos l) : Pos (l.map turn) := by
  intro x hx
  obtain ⟨y, hy, rfl⟩ := List.mem_map.1 hx
  exact h y hy
end

/-- d is the least cost from s to v; -1: there is no walk -/
def IsD (l : List Lk) (s v d : Int) : Prop := (d = -1 ∧ ∀ c, ¬ Wk l s v c) ∨ (0 ≤ d ∧ Wk l s v d ∧ ∀ c, Wk l s v c → d ≤ c)
theorem IsD.unique {l : List Lk} {s v d e : Int} (h : IsD l s v d) (h' : IsD l s v e) : d = e := by
  rcases h with ⟨rfl, h1⟩ | ⟨h0, h1, h2⟩ <;> rcases h' with ⟨rfl, h3⟩ | ⟨h4, h5, h6⟩
  · rfl
  · exact absurd h5 (h1 _)
  · exact absurd h1 (h3 _)
  · have := h2 _ h5; have := h6 _ h1; omega
theorem least_of {p : Int → Prop} : ∀ n : Nat, p n → (∀ c, p c → 0 ≤ c) → ∃ d, p d ∧ ∀ c, p c → d ≤ c := by
  intro n
  induction n using Nat.strongRecOn with
  | _ n ih =>
    intro hn h0
    by_cases h : ∃ c, p c ∧ c < n
    · obtain ⟨c, hc, hlt⟩ := h
      obtain ⟨m, rfl⟩ := Int.eq_ofNat_of_zero_le (h0 c hc)
      exact ih m (by omega) hc h0
    · refine ⟨n, hn, fun c hc => ?_⟩
      rcases Int.lt_or_le c n with h1 | h1
      · exact absurd ⟨c, hc, h1⟩ h
      · exact h1
theorem isD_ex {l : List Lk} (hp : Pos l) (s v : Int) : ∃ d, IsD l s v d := by
  by_cases h : ∃ c, Wk l s v c
  · obtain ⟨c, hc⟩ := h
    obtain ⟨n, rfl⟩ := Int.eq_ofNat_of_zero_le (hc.nonneg hp)
    obtain ⟨d, h1, h2⟩ := least_of n hc (fun c h => h.nonneg hp)
    exact ⟨d, .inr ⟨h1.nonneg hp, h1, h2⟩⟩
  · exact ⟨-1, .inl ⟨rfl, fun c hc => h ⟨c, hc⟩⟩⟩
open Classical in
/-- the least cost from s to v; -1: it isn't reached -/
noncomputable def D (l : List Lk) (s v : Int) : Int := if h : ∃ d, IsD l s v d then Classical.choose h else -1
theorem D_is {l : List Lk} (hp : Pos l) (s v : Int) : IsD l s v (D l s v) := by
  unfold D
  rw [dif_pos (isD_ex hp s v)]
  exact Classical.choose_spec (isD_ex hp s v)
section
variable {l : List Lk} (hp : Pos l)
include hp
theorem D_eq {s v d : Int} (h : IsD l s v d) : D l s v = d := (D_is hp s v).unique h
theorem D_walk {s v : Int} (h : 0 ≤ D l s v) : Wk l s v (D l s v) := by
  rcases D_is hp s v with ⟨h1, _⟩ | ⟨_, h2, _⟩
  · omega
  · exact h2
theorem D_le {s v c : Int} (h : Wk l s v c) : 0 ≤ D l s v ∧ D l s v ≤ c := by
  rcases D_is hp s v with ⟨_, h1⟩ | ⟨h0, _, h2⟩
  · exact absurd h (h1 _)
  · exact ⟨h0, h2 _ h⟩
theorem D_ge (s v : Int) : -1 ≤ D l s v := by
  rcases D_is hp s v with ⟨h1, _⟩ | ⟨h0, _⟩ <;> omega
theorem D_no {s v : Int} (h : D l s v < 0) : D l s v = -1 ∧ ∀ c, ¬ Wk l s v c := by
  rcases D_is hp s v with ⟨h1, h2⟩ | ⟨h0, _⟩
  · exact ⟨h1, h2⟩
  · omega
theorem D_self (s : Int) : D l s s = 0 := by
  have := D_le hp (Wk.nil (l := l) (s := s)); omega
theorem D_pos {s v : Int} (h : 0 ≤ D l s v) (hne : s ≠ v) : 1 ≤ D l s v := by
  rcases (D_walk hp h).first with ⟨e, _⟩ | ⟨b, k, d, hb, hd, he⟩
  · exact absurd e hne
  · have := hp _ hb; have := hd.nonneg hp; simp only at *; omega
theorem D_zero {s v : Int} : D l s v = 0 ↔ s = v := by
  constructor
  · intro h
    by_cases e : s = v
    · exact e
    · have := D_pos hp (s := s) (v := v) (by omega) e; omega
  · rintro rfl; exact D_self hp s
theorem D_edge {s u v k : Int} (h : 0 ≤ D l s u) (hm : (⟨u, v, k⟩ : Lk) ∈ l) : 0 ≤ D l s v ∧ D l s v ≤ D l s u + k := D_le hp ((D_walk hp h).snoc hm)
theorem D_edgeL {u v t k : Int} (h : 0 ≤ D l v t) (hm : (⟨u, v, k⟩ : Lk) ∈ l) : 0 ≤ D l u t ∧ D l u t ≤ k + D l v t := D_le hp ((Wk.one hm).trans (D_walk hp h))
/-- the way over a third node costs no less -/
theorem D_tri {s a t : Int} (h1 : 0 ≤ D l s a) (h2 : 0 ≤ D l a t) : 0 ≤ D l s t ∧ D l s t ≤ D l s a + D l a t := D_le hp ((D_walk hp h1).trans (D_walk hp h2))
/-- turned links, turned ways -/
theorem D_turn (s v : Int) : D (l.map turn) v s = D l s v := by
  refine D_eq (pos_turn hp) ?_
  rcases D_is hp s v with ⟨h1, h2⟩ | ⟨h0, h1, h2⟩
  · exact .inl ⟨h1, fun c hc => h2 c (wk_turn.1 hc)⟩
  · exact .inr ⟨h0, wk_turn.2 h1, fun c hc => h2 c (wk_turn.1 hc)⟩
/-- there is a next node -/
theorem D_next {a t : Int} (h : 1 ≤ D l a t) : ∃ b k, (⟨a, b, k⟩ : Lk) ∈ l ∧ 0 ≤ D l b t ∧ k + D l b t = D l a t := by
  rcases (D_walk hp (s := a) (v := t) (by omega)).first with ⟨_, e⟩ | ⟨b, k, d, hb, hd, he⟩
  · omega
  · have h1 := D_le hp hd
    have h2 := D_edgeL hp h1.1 hb
    exact ⟨b, k, hb, h1.1, by omega⟩
/-- fewer links, no cheaper ways -/
theorem D_fewer {m : List Lk} (hs : ∀ x ∈ m, x ∈ l) {s v : Int} (h : 0 ≤ D m s v) : 0 ≤ D l s v ∧ D l s v ≤ D m s v :=
  D_le hp ((D_walk (fun x hx => hp x (hs x hx)) h).mono hs)
end
/-- is link (a, b) of cost k on a cheapest way from s to t? -/
def usesD (l : List Lk) (s t a b k : Int) : Prop := 0 ≤ D l s a ∧ 0 ≤ D l b t ∧ D l s a + k + D l b t = D l s t
/-- what goes over none of the links that are left out costs the same -/
theorem D_same {l m : List Lk} (hp : Pos l) (hs : ∀ x ∈ m, x ∈ l) {s t : Int} (h : 0 ≤ D l s t) (hu : ∀ x ∈ l, x ∉ m → ¬ usesD l s t x.f x.t x.c) : D m s t = D l s t := by
  have hpm : Pos m := fun x hx => hp x (hs x hx)
  have key : ∀ u c, Wk l s u c → 0 ≤ D l u t → c + D l u t = D l s t → c = D l s u → Wk m s u c := by
    intro u c hw
    induction hw with
    | nil => intro _ _ _; exact .nil
    | @snoc a b c k hw hm ih =>
      intro h0 h1 h2
      have e1 := D_le hp hw
      have e2 := D_edgeL hp h0 hm
      have e3 := D_tri hp e1.1 e2.1
      have hc : c = D l s a := by
        have := D_edge hp e1.1 hm
        omega
      have h4 : c + D l a t = D l s t := by omega
      have hin : (⟨a, b, k⟩ : Lk) ∈ m := by
        by_cases hx : (⟨a, b, k⟩ : Lk) ∈ m
        · exact hx
        · refine absurd ⟨e1.1, h0, ?_⟩ (hu _ hm hx)
          simp only
          omega
      exact (ih e2.1 h4 hc).snoc hin
  have hw := key t _ (D_walk hp h) (by rw [D_self hp]; exact Int.le_refl _) (by rw [D_self hp]; omega) rfl
  have h1 := D_le hpm hw
  have h2 := D_fewer hp hs h1.1
  omega
end Go.Proofs.Ytmdcfiejkbhgpaa
