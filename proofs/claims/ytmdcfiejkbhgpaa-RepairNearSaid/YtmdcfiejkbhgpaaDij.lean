/-
  The nearest one first: what holds on the way. No program in sight.
-/
import Derived.Test.YtmdcfiejkbhgpaaBf
import Derived.Test.YtmdcfiejkbhgpaaHp
import Derived.Test.YtmdcfiejkbhgpaaFrom
namespace Go.Proofs.Ytmdcfiejkbhgpaa

/-- Z: the costs told so far (-1: not yet); q: who waits, at what cost; pend: links of the last one that are still to be looked at -/
structure DInv (n : Int) (l : List Lk) (s : Int) (Z : Int → Int) (q : Wq) (pend : List Lk) : Prop where
  set : ∀ v, 0 ≤ v → v < n → Z v = -1 ∨ (Z v = D l s v ∧ 0 ≤ D l s v)
  ent : ∀ e ∈ q, 0 ≤ e.1 ∧ e.1 < n ∧ 0 ≤ e.2 ∧ e.2 ≤ 1090519040 ∧ Wk l s e.1 e.2
  lnk : ∀ x ∈ l, Z x.f ≠ -1 → Z x.t = -1 → x ∈ pend ∨ ∃ c, (x.t, c) ∈ q ∧ c ≤ Z x.f + x.c
  beg : Z s = -1 → (s, 0) ∈ q
section
variable {n : Int} {l : List Lk} {s : Int} {Z : Int → Int} {q r : Wq} {pend : List Lk} {e : Int × Int}
theorem dInv_init (hs : 0 ≤ s ∧ s < n) : DInv n l s (fun _ => -1) [(s, 0)] [] where
  set v _ _ := .inl rfl
  ent e he := by
    simp at he
    subst he
    exact ⟨hs.1, hs.2, Int.le_refl _, by simp, .nil⟩
  lnk x _ h := absurd rfl h
  beg _ := by simp
/-- some one on each walk to who isn't told waits at no more -/
theorem DInv.ahead (h : DInv n l s Z q []) (hg : GOk n l) {v d : Int} (hw : Wk l s v d) : Z v ≠ -1 ∨ ∃ e ∈ q, e.2 ≤ d := by
  induction hw with
  | nil =>
    by_cases hz : Z s = -1
    · exact .inr ⟨_, h.beg hz, Int.le_refl _⟩
    · exact .inl hz
  | @snoc u v c k hu hm ih =>
    have hk := hg.ok _ hm
    simp only at hk
    rcases ih with h1 | ⟨e, he, hle⟩
    · by_cases hz : Z v = -1
      · rcases h.lnk _ hm h1 hz with h2 | ⟨c', hc', hle⟩
        · cases h2
        · refine .inr ⟨_, hc', ?_⟩
          have hd := D_le hg.pos hu
          simp only at hle ⊢
          rcases h.set u (by omega) (by omega) with h3 | h3
          · exact absurd h3 h1
          · omega
      · exact .inl hz
    · exact .inr ⟨e, he, by omega⟩
/-- one that is told already is let go -/
theorem DInv.skip (h : DInv n l s Z q []) (hm : ∀ y, y ∈ q ↔ y ∈ r ∨ y = e) (hz : Z e.1 ≠ -1) : DInv n l s Z r [] where
  set := h.set
  ent y hy := h.ent y ((hm y).2 (.inl hy))
  lnk x hx h1 h2 := by
    rcases h.lnk x hx h1 h2 with h3 | ⟨c, hc, hle⟩
    · exact .inl h3
    · rcases (hm _).1 hc with h4 | h4
      · exact .inr ⟨c, h4, hle⟩
      · rw [← h4] at hz
        exact absurd h2 hz
  beg h1 := by
    rcases (hm _).1 (h.beg h1) with h4 | h4
    · exact h4
    · rw [← h4] at hz
      exact absurd h1 hz
/-- the nearest one is told -/
theorem DInv.take (h : DInv n l s Z q []) (hg : GOk n l) (hm : ∀ y, y ∈ q ↔ y ∈ r ∨ y = e) (hmin : ∀ y ∈ q, e.2 ≤ y.2) (hz : Z e.1 = -1) : DInv n l s (updZ Z e.1 e.2) r (grp l e.1) := by
  have he := h.ent e ((hm e).2 (.inr rfl))
  have hD : D l s e.1 = e.2 := by
    refine D_eq hg.pos (.inr ⟨he.2.2.1, he.2.2.2.2, fun c hc => ?_⟩)
    rcases h.ahead hg hc with h1 | ⟨y, hy, hle⟩
    · exact absurd hz h1
    · exact Int.le_trans (hmin y hy) hle
  refine ⟨fun v h0 h1 => ?_, fun y hy => h.ent y ((hm y).2 (.inl hy)), fun x hx h1 h2 => ?_, fun h1 => ?_⟩
  · unfold updZ
    split
    · rename_i e1
      subst e1
      exact .inr ⟨hD.symm, by rw [hD]; exact he.2.2.1⟩
    · exact h.set v h0 h1
  · have ht : x.t ≠ e.1 := by
      intro e1
      unfold updZ at h2
      rw [if_pos e1] at h2
      omega
    have h2' : Z x.t = -1 := by
      unfold updZ at h2
      rw [if_neg ht] at h2
      exact h2
    by_cases hf : x.f = e.1
    · exact .inl (mem_grp.2 ⟨hx, hf⟩)
    · have h1' : Z x.f ≠ -1 := by
        unfold updZ at h1
        rw [if_neg hf] at h1
        exact h1
      rcases h.lnk x hx h1' h2' with h3 | ⟨c, hc, hle⟩
      · cases h3
      · rcases (hm _).1 hc with h4 | h4
        · refine .inr ⟨c, h4, ?_⟩
          unfold updZ
          rw [if_neg hf]
          exact hle
        · exact absurd (by rw [← h4]) ht
  · have hs : s ≠ e.1 := by
      intro e1
      unfold updZ at h1
      rw [if_pos e1] at h1
      omega
    unfold updZ at h1
    rw [if_neg hs] at h1
    rcases (hm _).1 (h.beg h1) with h4 | h4
    · exact h4
    · exact absurd (by rw [← h4]) hs
/-- a link leads to one that isn't told: it waits -/
theorem DInv.push {x : Lk} (h : DInv n l s Z q (x :: pend)) (hg : GOk n l) (hs : 0 ≤ s ∧ s < n) (hx : x ∈ l) (h0 : Z x.f ≠ -1) (hm : ∀ y, y ∈ r ↔ y ∈ q ∨ y = (x.t, Z x.f + x.c)) : DInv n l s Z r pend := by
  have hk := hg.ok x hx
  have hu := (h.set x.f (by omega) (by omega)).resolve_left h0
  have htop := D_top (l := l) hg (a := s) (t := x.f) hs
  refine ⟨h.set, fun y hy => ?_, fun z hz h1 h2 => ?_, fun h1 => (hm _).2 (.inl (h.beg h1))⟩
  · rcases (hm y).1 hy with h1 | rfl
    · exact h.ent y h1
    · refine ⟨by simp only; omega, by simp only; omega, by simp only; omega, by simp only; omega, ?_⟩
      simp only
      rw [hu.1]
      exact (D_walk hg.pos hu.2).snoc hx
  · rcases h.lnk z hz h1 h2 with h3 | ⟨c, hc, hle⟩
    · rcases List.mem_cons.1 h3 with rfl | h4
      · exact .inr ⟨_, (hm _).2 (.inr rfl), Int.le_refl _⟩
      · exact .inl h4
    · exact .inr ⟨c, (hm _).2 (.inl hc), hle⟩
/-- .. to one that is told: it needn't -/
theorem DInv.pass {x : Lk} (h : DInv n l s Z q (x :: pend)) (h0 : Z x.t ≠ -1) : DInv n l s Z q pend :=
  ⟨h.set, h.ent, fun z hz h1 h2 => by
    rcases h.lnk z hz h1 h2 with h3 | h3
    · rcases List.mem_cons.1 h3 with rfl | h4
      · exact absurd h2 h0
      · exact .inl h4
    · exact .inr h3, h.beg⟩
/-- no one waits: all is told -/
theorem DInv.done (h : DInv n l s Z [] []) (hg : GOk n l) {v : Int} (h0 : 0 ≤ v) (h1 : v < n) : Z v = D l s v := by
  rcases h.set v h0 h1 with h2 | h2
  · rw [h2]
    refine (D_eq hg.pos (.inl ⟨rfl, fun c hc => ?_⟩)).symm
    rcases h.ahead hg hc with h3 | ⟨e, he, _⟩
    · exact h3 h2
    · cases he
  · exact h2.1
end
#print axioms DInv.take
end Go.Proofs.Ytmdcfiejkbhgpaa
