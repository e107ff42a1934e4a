/-
  Least costs of a given graph, by a table that is checked. No program in sight.
-/
import Derived.Test.YtmdcfiejkbhgpaaRPath
import Derived.Test.YtmdcfiejkbhgpaaRWithout
namespace Go.Proofs.Ytmdcfiejkbhgpaa

def certB (n : Int) (l : List Lk) (s : Int) (f : Int → Int) : Bool :=
  f s == 0 && l.all (fun x => decide (f x.f < 0) || (decide (0 ≤ f x.t) && decide (f x.t ≤ f x.f + x.c))) &&
    (nodes n).all fun v => f v == -1 || (f v == 0 && v == s) || (decide (0 < f v) && l.any fun x => x.t == v && decide (0 ≤ f x.f) && f x.f + x.c == f v)
theorem cert_low {n : Int} {l : List Lk} {s : Int} {f : Int → Int} (hb : certB n l s f = true) {v c : Int} (h : Wk l s v c) : 0 ≤ f v ∧ f v ≤ c := by
  unfold certB at hb
  simp only [Bool.and_eq_true, beq_iff_eq, List.all_eq_true, Bool.or_eq_true, decide_eq_true_eq] at hb
  obtain ⟨⟨h0, h1⟩, -⟩ := hb
  induction h with
  | nil => omega
  | snoc _ hm ih =>
    have := h1 _ hm
    simp only at this
    omega
theorem cert_walk {n : Int} {l : List Lk} (hg : GOk n l) {s : Int} {f : Int → Int} (hb : certB n l s f = true) : ∀ (k : Nat) (v : Int), 0 ≤ v → v < n → 0 ≤ f v → f v ≤ k → Wk l s v (f v) := by
  unfold certB at hb
  simp only [Bool.and_eq_true, beq_iff_eq, List.all_eq_true, Bool.or_eq_true, decide_eq_true_eq, List.any_eq_true] at hb
  obtain ⟨⟨h0, -⟩, h2⟩ := hb
  have base : ∀ v, 0 ≤ v → v < n → f v = 0 → Wk l s v (f v) := by
    intro v hv0 hv1 hz
    rcases h2 v (mem_nodes.2 ⟨hv0, hv1⟩) with (h3 | h3) | h3
    · omega
    · rw [hz, h3.2]; exact .nil
    · omega
  intro k
  induction k with
  | zero => intro v hv0 hv1 hn hk; exact base v hv0 hv1 (by omega)
  | succ k ih =>
    intro v hv0 hv1 hn hk
    rcases h2 v (mem_nodes.2 ⟨hv0, hv1⟩) with (h3 | h3) | h3
    · omega
    · exact base v hv0 hv1 h3.1
    · obtain ⟨_, x, hx, ⟨hxt, hxf⟩, hxc⟩ := h3
      have hok := hg.ok x hx
      have hw := ih x.f hok.1 hok.2.1 hxf (by omega)
      obtain ⟨a, b, c⟩ := x
      simp only at hxt hxf hxc hw
      rw [← hxc, ← hxt]
      exact hw.snoc hx
theorem D_cert {n : Int} {l : List Lk} (hg : GOk n l) {s : Int} {f : Int → Int} (hb : certB n l s f = true) {v : Int} (hv : 0 ≤ v ∧ v < n) : D l s v = f v := by
  refine D_eq hg.pos ?_
  by_cases h : 0 ≤ f v
  · exact .inr ⟨h, cert_walk hg hb (f v).toNat v hv.1 hv.2 h (by omega), fun c hc => (cert_low hb hc).2⟩
  · refine .inl ⟨?_, fun c hc => h (cert_low hb hc).1⟩
    have h2 := hb
    unfold certB at h2
    simp only [Bool.and_eq_true, beq_iff_eq, List.all_eq_true, Bool.or_eq_true, decide_eq_true_eq] at h2
    rcases h2.2 v (mem_nodes.2 hv) with (h3 | h3) | h3
    · exact h3
    · omega
    · omega
/-- a table for all nodes -/
def certs (n : Int) (l : List Lk) (F : Int → Int → Int) : Bool := (nodes n).all fun s => certB n l s (F s)
theorem D_certs {n : Int} {l : List Lk} (hg : GOk n l) {F : Int → Int → Int} (hb : certs n l F = true) {s v : Int} (hs : 0 ≤ s ∧ s < n) (hv : 0 ≤ v ∧ v < n) : D l s v = F s v := by
  unfold certs at hb
  rw [List.all_eq_true] at hb
  exact D_cert hg (hb s (mem_nodes.2 hs)) hv
/-- the next nodes by the table -/
def nextsC (n : Int) (l : List Lk) (F : Int → Int → Int) (a t : Int) : List Int := (nodes n).filter fun b => decide (1 ≤ F a t) && l.any fun x => x.f == a && (x.t == b && (decide (0 ≤ F b t) && x.c + F b t == F a t))
theorem nexts_cert {n : Int} {l : List Lk} (hg : GOk n l) {F : Int → Int → Int} (hb : certs n l F = true) {a t : Int} (ha : 0 ≤ a ∧ a < n) (ht : 0 ≤ t ∧ t < n) : nexts n l a t = nextsC n l F a t := by
  unfold nexts nextsC
  refine List.filter_congr fun b hbn => ?_
  have hb' := mem_nodes.1 hbn
  rw [Bool.eq_iff_iff]
  unfold nextTo
  rw [D_certs hg hb ha ht, D_certs hg hb hb' ht]
  simp only [decide_eq_true_eq, Bool.and_eq_true, List.any_eq_true, beq_iff_eq]
  constructor
  · rintro ⟨h1, k, hk, h2, h3⟩
    exact ⟨h1, _, hk, rfl, rfl, h2, h3⟩
  · rintro ⟨h1, ⟨f, t', c⟩, hx, h2, h3, h4, h5⟩
    simp only at h2 h3 h5
    subst h2 h3
    exact ⟨h1, c, hx, h4, h5⟩
/-- whether a way of least cost goes over a link, by the table -/
def usesC (l : List Lk) (F : Int → Int → Int) (s t a b : Int) : Bool := decide (0 < costR l a b) && decide (0 ≤ F s a) && decide (0 ≤ F b t) && decide (F s a + costR l a b + F b t = F s t)
theorem uses_cert {n : Int} {l : List Lk} (hg : GOk n l) {F : Int → Int → Int} (hb : certs n l F = true) {s t a b : Int} (hs : 0 ≤ s ∧ s < n) (ht : 0 ≤ t ∧ t < n) (ha : 0 ≤ a ∧ a < n) (hbb : 0 ≤ b ∧ b < n) : usesG n l s t a b = usesC l F s t a b := by
  unfold usesG usesV usesC
  rw [rightG_in hg hs, rightG_in hg ht, rightG_in hg ha, rightG_in hg hbb, D_certs hg hb hs ha, D_certs hg hb hbb ht, D_certs hg hb hs ht]
  simp
/-- the lowest way by the table -/
def pathC (n : Int) (l : List Lk) (F : Int → Int → Int) (t : Int) : Nat → Int → List Int
  | 0, a => [a]
  | k + 1, a => if a = t then [a] else match nextsC n l F a t with | [] => [a] | b :: _ => a :: pathC n l F t k b
theorem pathF_cert {n : Int} {l : List Lk} (hg : GOk n l) {F : Int → Int → Int} (hb : certs n l F = true) {t : Int} (ht : 0 ≤ t ∧ t < n) : ∀ (k : Nat) (a : Int), 0 ≤ a ∧ a < n → pathF n l t k a = pathC n l F t k a
  | 0, a, _ => rfl
  | k + 1, a, ha => by
    unfold pathF pathC
    rw [nexts_cert hg hb ha ht]
    by_cases e : a = t
    · rw [if_pos e, if_pos e]
    · rw [if_neg e, if_neg e]
      cases hn : nextsC n l F a t with
      | nil => rfl
      | cons b r =>
        have hbm : b ∈ nodes n := by
          have : b ∈ nextsC n l F a t := by rw [hn]; simp
          unfold nextsC at this
          exact (List.mem_filter.1 this).1
        simp only
        rw [pathF_cert hg hb ht k b (mem_nodes.1 hbm)]
theorem pathL_cert {n : Int} {l : List Lk} (hg : GOk n l) {F : Int → Int → Int} (hb : certs n l F = true) {a t : Int} (ha : 0 ≤ a ∧ a < n) (ht : 0 ≤ t ∧ t < n) : pathL n l a t = if F a t < 0 then [] else pathC n l F t (F a t).toNat a := by
  unfold pathL
  rw [D_certs hg hb ha ht, pathF_cert hg hb ht _ _ ha]
/-- the example of the laws of spf -/
def l0 : List Lk := [⟨0, 1, 1⟩, ⟨1, 2, 1⟩, ⟨0, 2, 2⟩]
def F0 (s v : Int) : Int := ([[0, 1, 2, -1], [-1, 0, 1, -1], [-1, -1, 0, -1], [-1, -1, -1, 0]].getD s.toNat []).getD v.toNat (-1)
theorem g0 : GOk 4 l0 := chkG_ok.1 (by decide +kernel)
theorem c0 : certs 4 l0 F0 = true := by decide +kernel
theorem d0_row : cellsN (D l0 0) 4 = ints [0, 1, 2, -1] := by
  rw [cellsN_congr (Y := F0 0) fun i hi => D_certs g0 c0 (by decide) (by omega)]
  rfl
theorem next0 : nextsU 4 l0 0 2 = [1, 2] := by
  rw [nextsU_eq g0 (by decide) (by decide), nexts_cert g0 c0 (by decide) (by decide)]
  decide +kernel
theorem path0 : pathG 4 l0 0 2 = [0, 1, 2] := by
  unfold pathG
  rw [if_pos (by decide +kernel), pathL_cert g0 c0 (by decide) (by decide)]
  decide +kernel
theorem cost0 : costV l0 [0, 1, 2] = .tuple #[.int .i64 2, .bool true] := by
  unfold costV
  rw [show costG l0 [0, 1, 2] = some 2 by decide +kernel]
  rfl
theorem wo0 : (withoutG l0 2 1).length = 2 := by decide +kernel
theorem use0 : usesG 4 l0 0 2 0 2 = true := by
  rw [uses_cert g0 c0 (by decide) (by decide) (by decide) (by decide)]
  decide +kernel
theorem use1 : usesG 4 l0 0 1 0 2 = false := by
  rw [uses_cert g0 c0 (by decide) (by decide) (by decide) (by decide)]
  decide +kernel
theorem chk0 : chkG 4 l0 = 0 := by decide +kernel
theorem chk1 : chkG 0 [] = 1 := by decide +kernel
theorem small0 : Small l0 := by
  intro x hx
  simp [l0] at hx
  rcases hx with rfl | rfl | rfl <;> decide
end Go.Proofs.Ytmdcfiejkbhgpaa
