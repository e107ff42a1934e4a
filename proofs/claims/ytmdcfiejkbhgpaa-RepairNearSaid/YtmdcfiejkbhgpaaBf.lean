/-
  What grows cheaper until it doesn't: the least costs. No program in sight.
-/
import Derived.Test.YtmdcfiejkbhgpaaChk
namespace Go.Proofs.Ytmdcfiejkbhgpaa

def updZ (Z : Int → Int) (v x : Int) : Int → Int := fun u => if u = v then x else Z u
/-- what there is to be found yet -/
def muZ (Z : Int → Int) : List Int → Nat
  | [] => 0
  | v :: r => (if Z v < 0 then 1073741825 else (Z v).toNat) + muZ Z r
theorem muZ_congr {Z Y : Int → Int} : ∀ {r : List Int}, (∀ v ∈ r, Z v = Y v) → muZ Z r = muZ Y r
  | [], _ => rfl
  | v :: r, h => by rw [muZ, muZ, h v (by simp), muZ_congr (fun u hu => h u (by simp [hu]))]
theorem muZ_upd {Z : Int → Int} {v x : Int} (hx : 0 ≤ x) (hx2 : x ≤ 1073741824) (hlt : Z v < 0 ∨ x < Z v) : ∀ {r : List Int}, r.Pairwise (· < ·) → v ∈ r → muZ (updZ Z v x) r < muZ Z r
  | [], _, h => by cases h
  | u :: r, hp, hm => by
    rw [List.pairwise_cons] at hp
    rw [muZ, muZ]
    by_cases e : u = v
    · subst e
      have h1 : muZ (updZ Z u x) r = muZ Z r := muZ_congr fun w hw => by
        have := hp.1 w hw
        unfold updZ; rw [if_neg (by omega)]
      rw [h1]
      have h2 : updZ Z u x u = x := by simp [updZ]
      rw [h2, if_neg (by omega)]
      split <;> omega
    · have h1 := muZ_upd hx hx2 hlt hp.2 (show v ∈ r by rcases List.mem_cons.1 hm with h | h; exact absurd h.symm e; exact h)
      have h2 : updZ Z v x u = Z u := by simp [updZ, e]
      rw [h2]
      omega
/-- how many are reached -/
def cntZ (Z : Int → Int) (r : List Int) : Nat := r.countP fun v => decide (0 ≤ Z v)
theorem cntZ_le (Z : Int → Int) (r : List Int) : cntZ Z r ≤ r.length := List.countP_le_length
theorem cntZ_upd {Z : Int → Int} {v x : Int} (hx : 0 ≤ x) : ∀ {r : List Int}, cntZ Z r ≤ cntZ (updZ Z v x) r
  | [] => Nat.le_refl _
  | u :: r => by
    have ih := cntZ_upd (Z := Z) (v := v) hx (r := r)
    unfold cntZ at *
    rw [List.countP_cons, List.countP_cons]
    by_cases e : u = v
    · subst e
      have : decide (0 ≤ updZ Z u x u) = true := by simp [updZ, hx]
      rw [this]
      split <;> simp <;> omega
    · have : updZ Z v x u = Z u := by simp [updZ, e]
      rw [this]
      omega
theorem cntZ_new {Z : Int → Int} {v x : Int} (hx : 0 ≤ x) (hv : Z v < 0) : ∀ {r : List Int}, r.Pairwise (· < ·) → v ∈ r → cntZ Z r + 1 ≤ cntZ (updZ Z v x) r
  | [], _, h => by cases h
  | u :: r, hp, hm => by
    rw [List.pairwise_cons] at hp
    by_cases e : u = v
    · subst e
      have ih := cntZ_upd (Z := Z) (v := u) hx (r := r)
      unfold cntZ at *
      rw [List.countP_cons, List.countP_cons]
      have h1 : decide (0 ≤ updZ Z u x u) = true := by simp [updZ, hx]
      have h2 : decide (0 ≤ Z u) = false := by simp; omega
      rw [h1, h2]
      simp
      omega
    · have ih := cntZ_new hx hv hp.2 (show v ∈ r by rcases List.mem_cons.1 hm with h | h; exact absurd h.symm e; exact h)
      unfold cntZ at *
      rw [List.countP_cons, List.countP_cons]
      have : updZ Z v x u = Z u := by simp [updZ, e]
      rw [this]
      omega
/-- what holds on the way -/
structure InvZ (n : Int) (l : List Lk) (s : Int) (Z : Int → Int) : Prop where
  walk : ∀ v, 0 ≤ v → v < n → Z v = -1 ∨ (0 ≤ Z v ∧ Wk l s v (Z v))
  start : Z s = 0
  top : ∀ v, 0 ≤ v → v < n → Z v + 16777216 ≤ 16777216 * (cntZ Z (nodes n) : Int)
theorem nodes_len (n : Int) : (nodes n).length = n.toNat := by simp [nodes]
theorem InvZ.le {n : Int} {l : List Lk} {s : Int} {Z : Int → Int} (h : InvZ n l s Z) (hn : n ≤ 64) {v : Int} (h0 : 0 ≤ v) (h1 : v < n) : -1 ≤ Z v ∧ Z v ≤ 1056964608 := by
  have h2 := h.top v h0 h1
  have h3 := cntZ_le Z (nodes n)
  rw [nodes_len] at h3
  have h4 := h.walk v h0 h1
  omega
theorem InvZ.init {n : Int} {l : List Lk} {s : Int} (hs : 0 ≤ s ∧ s < n) : InvZ n l s (updZ (fun _ => -1) s 0) := by
  refine ⟨fun v _ _ => ?_, by simp [updZ], fun v _ _ => ?_⟩
  · unfold updZ
    split
    · rename_i e; subst e; exact .inr ⟨Int.le_refl _, .nil⟩
    · exact .inl rfl
  · have h1 := cntZ_new (Z := fun _ => -1) (v := s) (x := 0) (Int.le_refl _) (by decide) (nodes_sorted n) (mem_nodes.2 hs)
    have h2 : updZ (fun _ => -1) s 0 v ≤ 0 := by
      unfold updZ
      split
      · exact Int.le_refl _
      · show (-1 : Int) ≤ 0
        decide
    omega
/-- a link tells nothing new -/
def relaxed (Z : Int → Int) (x : Lk) : Prop := 0 ≤ Z x.f → 0 ≤ Z x.t ∧ Z x.t ≤ Z x.f + x.c
theorem InvZ.step {n : Int} {l : List Lk} {s : Int} {Z : Int → Int} (h : InvZ n l s Z) (hg : GOk n l) {x : Lk} (hx : x ∈ l) (h0 : 0 ≤ Z x.f) (h1 : Z x.t < 0 ∨ Z x.f + x.c < Z x.t) :
    InvZ n l s (updZ Z x.t (Z x.f + x.c)) ∧ muZ (updZ Z x.t (Z x.f + x.c)) (nodes n) < muZ Z (nodes n) := by
  have hk := hg.ok x hx
  have hle := h.le hg.n64 hk.1 hk.2.1
  have hmt := mem_nodes.2 ⟨hk.2.2.1, hk.2.2.2.1⟩
  have hw : Wk l s x.t (Z x.f + x.c) := by
    rcases h.walk x.f hk.1 hk.2.1 with e | ⟨_, hw⟩
    · omega
    · exact hw.snoc (show (⟨x.f, x.t, x.c⟩ : Lk) ∈ l from hx)
  refine ⟨⟨fun v hv0 hv1 => ?_, ?_, fun v hv0 hv1 => ?_⟩, muZ_upd (by omega) (by omega) h1 (nodes_sorted n) hmt⟩
  · unfold updZ
    split
    · rename_i e; subst e; exact .inr ⟨by omega, hw⟩
    · exact h.walk v hv0 hv1
  · unfold updZ
    split
    · rename_i e
      have := h.start
      rw [e] at this
      omega
    · exact h.start
  · have c1 := cntZ_upd (Z := Z) (v := x.t) (x := Z x.f + x.c) (by omega) (r := nodes n)
    have t1 := h.top v hv0 hv1
    have t2 := h.top x.f hk.1 hk.2.1
    have t3 := h.top x.t hk.2.2.1 hk.2.2.2.1
    show updZ Z x.t (Z x.f + x.c) v + _ ≤ _
    by_cases e : v = x.t
    · have e2 : updZ Z x.t (Z x.f + x.c) v = Z x.f + x.c := by simp [updZ, e]
      rw [e2]
      rcases h1 with h1 | h1
      · have := cntZ_new (Z := Z) (v := x.t) (x := Z x.f + x.c) (by omega) h1 (nodes_sorted n) hmt
        omega
      · omega
    · have e2 : updZ Z x.t (Z x.f + x.c) v = Z v := by simp [updZ, e]
      rw [e2]
      omega
/-- where nothing grows cheaper, these are the least costs -/
theorem InvZ.done {n : Int} {l : List Lk} {s : Int} {Z : Int → Int} (h : InvZ n l s Z) (hg : GOk n l) (hr : ∀ x ∈ l, relaxed Z x) {v : Int} (h0 : 0 ≤ v) (h1 : v < n) : Z v = D l s v := by
  have key : ∀ u c, Wk l s u c → 0 ≤ Z u ∧ Z u ≤ c := by
    intro u c hw
    induction hw with
    | nil => have := h.start; omega
    | @snoc a b c k _ hm ih =>
      have := hr _ hm ih.1
      simp only at this
      omega
  symm
  refine D_eq hg.pos ?_
  rcases h.walk v h0 h1 with e | ⟨h2, h3⟩
  · refine .inl ⟨e, fun c hc => ?_⟩
    have := key v c hc
    omega
  · exact .inr ⟨h2, h3, fun c hc => (key v c hc).2⟩
end Go.Proofs.Ytmdcfiejkbhgpaa
