/-
  The steps around a link, plainly: from a node of the way to the last one that it comes to as ever, or over a link. No program in sight.
-/
import Derived.Test.YtmdcfiejkbhgpaaRepA
import Derived.StillTailTactics
namespace Go.Proofs.Ytmdcfiejkbhgpaa

/-- a step -/
structure St where
  lk : Bool
  f : Int
  t : Int
deriving DecidableEq
instance : Inhabited St := ⟨⟨false, 0, 0⟩⟩
def wAt (way : List Int) (i : Nat) : Int := way.getD i 0
/-- the greatest number below k of which p tells -/
def downK (p : Nat → Bool) : Nat → Option Nat
  | 0 => none
  | k + 1 => if p k = true then some k else downK p k
theorem downK_some {p : Nat → Bool} : ∀ {n k : Nat}, k < n → p k = true → (∀ j, k < j → j < n → p j = false) → downK p n = some k
  | 0, k, h, _, _ => absurd h (Nat.not_lt_zero k)
  | n + 1, k, h, hp, hj => by
    unfold downK
    by_cases e : k = n
    · subst e
      rw [if_pos hp]
    · rw [hj n (by omega) (by omega), if_neg (by simp)]
      exact downK_some (by omega) hp (fun j h1 h2 => hj j h1 (by omega))
theorem downK_none {p : Nat → Bool} : ∀ {n : Nat}, (∀ j, j < n → p j = false) → downK p n = none
  | 0, _ => rfl
  | n + 1, hj => by
    unfold downK
    rw [hj n (by omega), if_neg (by simp)]
    exact downK_none (fun j h => hj j (by omega))
theorem downK_is {p : Nat → Bool} : ∀ {n k : Nat}, downK p n = some k → k < n ∧ p k = true ∧ ∀ j, k < j → j < n → p j = false
  | 0, k, h => by cases h
  | n + 1, k, h => by
    unfold downK at h
    by_cases e : p n = true
    · rw [if_pos e] at h
      cases h
      exact ⟨by omega, e, fun j h1 h2 => by omega⟩
    · rw [if_neg e] at h
      obtain ⟨h1, h2, h3⟩ := downK_is h
      refine ⟨by omega, h2, fun j h4 h5 => ?_⟩
      by_cases e2 : j = n
      · subst e2; simpa using e
      · exact h3 j h4 (by omega)
section
variable (cl : Int → Int → Bool) (way : List Int) (d : Int)
def lastK (i : Nat) : Option Nat := downK (fun k => decide (i < k) && cl (wAt way i) (wAt way k)) way.length
/-- where the step at node i of the way leads to, and whether over a link -/
def hopK (i : Nat) : Bool × Nat := match lastK cl way i with | some k => (false, k) | none => (true, i + 1)
def stepsL : Nat → Nat → List St
  | 0, _ => []
  | f + 1, i => if cl (wAt way i) d = true then [] else ⟨(hopK cl way i).1, wAt way i, wAt way (hopK cl way i).2⟩ :: stepsL f (hopK cl way i).2
def stepsV : List St := stepsL cl way d way.length 0
/-- so far the steps are pre, and we are at node i of the way -/
def StepInv (pre : List St) (i : Nat) : Prop := i < way.length ∧ pre.length ≤ i ∧ ∃ f, stepsV cl way d = pre ++ stepsL cl way d f i ∧ way.length ≤ i + f
end
section
variable {cl : Int → Int → Bool} {way : List Int} {d : Int}
theorem stepInv_start (h : way ≠ []) : StepInv cl way d [] 0 := ⟨List.length_pos_iff.2 h, Nat.le_refl _, way.length, rfl, by omega⟩
theorem StepInv.stop {pre : List St} {i : Nat} (h : StepInv cl way d pre i) (hc : cl (wAt way i) d = true) : pre = stepsV cl way d := by
  obtain ⟨h1, _, f, h2, h3⟩ := h
  cases f with
  | zero => omega
  | succ f =>
    rw [h2, stepsL, if_pos hc, List.append_nil]
theorem StepInv.go {pre : List St} {i k : Nat} {b : Bool} (h : StepInv cl way d pre i) (hc : cl (wAt way i) d = false) (hk : hopK cl way i = (b, k)) (hik : i < k) (hkl : k < way.length) : StepInv cl way d (pre ++ [⟨b, wAt way i, wAt way k⟩]) k := by
  obtain ⟨h1, h0, f, h2, h3⟩ := h
  cases f with
  | zero => omega
  | succ f =>
    refine ⟨hkl, by simp; omega, f, ?_, by omega⟩
    rw [h2, stepsL, if_neg (by rw [hc]; simp), hk, List.append_assoc]
    rfl
/-- looking back from the end: none behind k -/
theorem hop_found {i k : Nat} (hik : i < k) (hk : k < way.length) (hc : cl (wAt way i) (wAt way k) = true) (hn : ∀ j, k < j → j < way.length → cl (wAt way i) (wAt way j) = false) : hopK cl way i = (false, k) := by
  unfold hopK lastK
  rw [downK_some hk (by simp [hik, hc]) (fun j h1 h2 => by rw [hn j h1 h2]; simp)]
theorem hop_none {i : Nat} (hn : ∀ j, i < j → j < way.length → cl (wAt way i) (wAt way j) = false) : hopK cl way i = (true, i + 1) := by
  unfold hopK lastK
  rw [downK_none (fun j h => by
    by_cases e : i < j
    · rw [hn j e h]; simp
    · simp; omega)]
end
/-- a node comes to itself as ever -/
theorem clean_self {n : Int} {l : List Lk} (hg : GOk n l) (s e : Int) {d : Int} : cleanV n l s e d d = true := by
  have key : ∀ p q, usesG n l d d p q = false := by
    intro p q
    cases h : usesG n l d d p q with
    | false => rfl
    | true =>
      unfold usesG at h
      simp only [Bool.and_eq_true] at h
      obtain ⟨k, hk, h1, h2, h3⟩ := (usesV_iff hg).1 h.2
      have := hg.pos _ hk
      rw [D_self hg.pos] at h3
      simp only at this
      omega
  unfold cleanV
  rw [key, key, D_self hg.pos]
  rfl
/-- a lowest way ends at its end -/
theorem path_end {n : Int} {l : List Lk} (hg : GOk n l) {s t : Int} (h0 : 0 ≤ D l s t) {i : Nat} (hi : i + 1 = (pathL n l s t).length) : wAt (pathL n l s t) i = t := by
  obtain ⟨x, hx⟩ : ∃ x, (pathL n l s t)[i]? = some x := ⟨_, List.getElem?_eq_getElem (by omega)⟩
  obtain ⟨h1, h2, _, _⟩ := path_part hg (D l s t).toNat s h0 (by omega) i x hx
  unfold wAt
  rw [getD_of hx]
  by_cases e : x = t
  · exact e
  · exfalso
    have h3 := D_pos hg.pos h2 e
    obtain ⟨b, r, hb, hn⟩ := nexts_cons hg h3
    have h4 := pathL_step hg h3 hb
    obtain ⟨_, c, hc, hb0, _⟩ := hn
    obtain ⟨r2, hr2⟩ := pathL_head hg hb0
    rw [h4, hr2] at h1
    have h5 := congrArg List.length h1
    rw [List.length_drop] at h5
    simp at h5
    omega
end Go.Proofs.Ytmdcfiejkbhgpaa
/-
  repair.Steps, walked.
-/
namespace Go.Proofs.Ytmdcfiejkbhgpaa
open Go.RowKit

def stc (x : St) : List Value := [.bool x.lk, .int .i64 x.f, .int .i64 x.t]
theorem stc_len (x : St) : (stc x).length = 3 := rfl
theorem stc_one (x : St) : ∀ u ∈ stc x, u.oneCell' = true := by
  intro u hu
  simp [stc] at hu
  rcases hu with rfl | rfl | rfl <;> rfl
/-- v is a row of these steps, from B on -/
def StsAt (ty : TypeId) (w : World) (B : Nat) (v : Value) (l : List St) : Prop := w.ownsRow B ty 3 v l.length (flatE stc l)
section
variable {ty : TypeId}
theorem stsAt_nil (w : World) (B : Nat) : StsAt ty w B (.slice none 0 0) [] := World.ownsRow_nil _ _ _ _
theorem StsAt.below {w w' : World} {B : Nat} {v : Value} {l : List St} (h : StsAt ty w B v l) (hb : Below w.heap.size w w') : StsAt ty w' B v l := own_below h hb
theorem StsAt.rd {w : World} {B : Nat} {v : Value} {l : List St} (h : StsAt ty w B v l) : ∃ A c, v = .slice A l.length c ∧ Rd stc 3 w A l.length l := by
  obtain ⟨A, c, hv, -, hr⟩ := Rd.of_own stc_len (by decide) (show w.ownsRow B ty 3 v l.length (flatE stc l) from h)
  exact ⟨A, c, hv, hr⟩
theorem stsAt_app {w0 w w' : World} {v : Value} {l : List St} (hb : Below w0.heap.size w0 w) (hown : StsAt ty w w0.heap.size v l) (hg : w.grownBy w' v.ownBlock) : Below w0.heap.size w0 w' := hb.grown hg hb.size (fun k hk => (hown.lt k hk).1)
end
theorem one_st (w : World) (z : St) (t : TypeId) : ∀ j u, (stc z)[j]? = some u → (w.alloc (.cells #[.bool z.lk, .int .i64 z.f, .int .i64 z.t] t)).cell? ((⟨w.heap.size, 0, none⟩ : Addr).add j) = some u := new_cells w (stc z) t
theorem Try.info_step : (Try.prog.info? 80).map (fun i => (i.zero, i.size, i.bytes)) = some (some (.agg #[.bool false, .int .i64 0, .int .i64 0]), 3, 24) := by kernel_rfl
theorem app_step {ops : Array Oper} {rest : List Oper} {o : Oper} {a : Act} {w : World} {Q : Exit → Act → World → Prop} (hgd : o.guard = none) (s x : Operand)
    (ho : o.op = .call { callee := .builtin .append, args := #[s, x], argTypes := #[49, 49] })
    (B : Nat) (v : Value) (l : List St) (z : St) (hs : a.eval s = v) (hown : StsAt 80 w B v l) (b : Nat) (hx : a.eval x = .slice (some ⟨b, 0, none⟩) 1 1) (hr : ∀ j u, (stc z)[j]? = some u → w.cell? ((⟨b, 0, none⟩ : Addr).add j) = some u)
    (hsz : l.length ≤ 1000000) (hB : B ≤ w.heap.size)
    (h : ∀ v' w', StsAt 80 w' B v' (l ++ [z]) → w.grownBy w' v.ownBlock → wpList Try.prog ops Q rest (a.put o.dst v') w') : wpList Try.prog ops Q (o :: rest) a w := by
  obtain ⟨i0, hi, hz0, hz1, hz2⟩ := info_parts Try.info_step
  refine wpList_append_own_at w hgd s x 49 ho B 80 i0 (.agg #[.bool false, .int .i64 0, .int .i64 0]) 3 24 Try.underlying49 hi hz0 hz1 hz2 rfl (by decide) v _ _ hs hown ⟨b, 0, none⟩ 1 1 (stc z) hx rfl hr (stc_one z) (by unfold maxLen; omega) (by omega) hB ?_
  intro v' w' hown' hg _ _
  refine h v' w' ?_ hg
  unfold StsAt
  rw [flatE_append, List.length_append]
  have e : flatE stc [z] = stc z := by simp [flatE]
  rw [e]
  exact hown'

/-- the way behind the cut -/
theorem way_facts {n : Int} {l : List Lk} {s e d : Int} (h : afterV n l s e d ≠ []) :
    GOk n l ∧ (0 ≤ d ∧ d < n) ∧ (∀ i, i < (afterV n l s e d).length → 0 ≤ wAt (afterV n l s e d) i ∧ wAt (afterV n l s e d) i < n) ∧ (∀ i, i + 1 = (afterV n l s e d).length → wAt (afterV n l s e d) i = d) ∧ (afterV n l s e d).length ≤ 64 := by
  unfold afterV at h ⊢
  by_cases h1 : (rightG n l s && rightG n l e) = true
  · rw [if_pos h1] at h ⊢
    have hlen := pathG_few n (withoutG l s e) s d
    unfold pathG at h hlen ⊢
    by_cases h2 : rightG n (withoutG l s e) s = true ∧ rightG n (withoutG l s e) d = true
    · rw [if_pos h2] at h hlen ⊢
      obtain ⟨hgw, hs0, hs1⟩ := rightG_ok.1 h2.1
      obtain ⟨-, hd0, hd1⟩ := rightG_ok.1 h2.2
      rw [Bool.and_eq_true] at h1
      have hgl := (rightG_ok.1 h1.1).1
      by_cases h3 : D (withoutG l s e) s d < 0
      · rw [pathL_no h3] at h
        exact absurd rfl h
      · refine ⟨hgl, ⟨hd0, hd1⟩, fun i hi => ?_, fun i hi => path_end hgw (by omega) hi, hlen⟩
        unfold wAt
        rw [getD_of (List.getElem?_eq_getElem hi)]
        exact path_mem hgw _ s (by omega) (Int.self_le_toNat _) hs0 hs1 _ (List.getElem_mem hi)
    · rw [if_neg h2] at h
      exact absurd rfl h
  · rw [if_neg h1] at h
    exact absurd rfl h
open Classical in
/-- the steps around, if there is a way -/
noncomputable def stepsR (n : Int) (l : List Lk) (s e d : Int) : List St := if afterV n l s e d = [] then [] else stepsV (cleanV n l s e) (afterV n l s e d) d
end Go.Proofs.Ytmdcfiejkbhgpaa
/-
  The nodes that steps lead over, plainly. No program in sight.
-/
namespace Go.Proofs.Ytmdcfiejkbhgpaa

theorem small_gok {n : Int} {l : List Lk} (hg : GOk n l) : Small l := by
  intro x hx
  have := hg.ok x hx
  omega
section
variable (n : Int) (l : List Lk)
/-- the nodes of one step -/
noncomputable def wayS (x : St) : List Int := if x.lk = true then [x.f, x.t] else pathG n l x.f x.t
noncomputable def okS (x : St) : Bool := (costG l (wayS n l x)).isSome
noncomputable def stepW (z : List Int × Int) (x : St) : Option (List Int × Int) := if okS n l x = true ∧ x.f = z.2 then some (z.1 ++ (wayS n l x).tail, x.t) else none
noncomputable def walkF : List Int × Int → List St → Option (List Int × Int)
  | z, [] => some z
  | z, x :: r => (stepW n l z x).bind fun y => walkF y r
/-- where the steps lead from s -/
noncomputable def walkT (s : Int) (xs : List St) : Option (List Int × Int) := walkF n l ([s], s) xs
/-- and on to d -/
noncomputable def walkO (s d : Int) (xs : List St) : Option (List Int × Int) := (walkT n l s xs).bind fun z => stepW n l z ⟨false, z.2, d⟩
noncomputable def walkV (s d : Int) (xs : List St) : List Int := if (rightG n l s && rightG n l d) = true then (match walkO n l s d xs with | some z => z.1 | none => []) else []
end
section
variable {n : Int} {l : List Lk}
theorem walkF_append : ∀ (a b : List St) (z : List Int × Int), walkF n l z (a ++ b) = (walkF n l z a).bind fun y => walkF n l y b
  | [], b, z => rfl
  | x :: a, b, z => by
    show (stepW n l z x).bind (fun y => walkF n l y (a ++ b)) = ((stepW n l z x).bind fun y => walkF n l y a).bind fun y => walkF n l y b
    cases stepW n l z x with
    | none => rfl
    | some y => exact walkF_append a b y
theorem walkT_snoc {s : Int} {xs : List St} {i : Nat} {x : St} (h : xs[i]? = some x) : walkT n l s (xs.take (i + 1)) = (walkT n l s (xs.take i)).bind fun z => stepW n l z x := by
  unfold walkT
  rw [take_snoc h, walkF_append]
  congr 1
  funext y
  show (stepW n l y x).bind (fun y => some y) = _
  cases stepW n l y x <;> rfl
theorem walkT_cut {s : Int} {xs : List St} {i : Nat} (h : walkT n l s (xs.take i) = none) : walkT n l s xs = none := by
  unfold walkT at *
  rw [← List.take_append_drop i xs, walkF_append, h]
  rfl
theorem wayS_len (x : St) : (wayS n l x).length ≤ 64 := by
  unfold wayS
  split
  · simp
  · exact pathG_few _ _ _ _
theorem stepW_len {z y : List Int × Int} {x : St} (h : stepW n l z x = some y) : y.1.length ≤ z.1.length + 64 := by
  unfold stepW at h
  split at h
  · cases h
    have := wayS_len (n := n) (l := l) x
    simp
    omega
  · cases h
theorem walkF_len : ∀ (xs : List St) (z y : List Int × Int), walkF n l z xs = some y → y.1.length ≤ z.1.length + 64 * xs.length
  | [], z, y, h => by cases h; simp
  | x :: r, z, y, h => by
    unfold walkF at h
    cases hs : stepW n l z x with
    | none => rw [hs] at h; cases h
    | some q =>
      rw [hs] at h
      have h1 := walkF_len r q y h
      have h2 := stepW_len hs
      simp only [List.length_cons]
      omega
/-- a step that is one: where it leads -/
theorem stepW_ok {z : List Int × Int} {x : St} (h1 : okS n l x = true) (h2 : x.f = z.2) : stepW n l z x = some (z.1 ++ (wayS n l x).tail, x.t) := if_pos ⟨h1, h2⟩
theorem stepW_no {z : List Int × Int} {x : St} (h1 : okS n l x = false ∨ x.f ≠ z.2) : stepW n l z x = none := if_neg fun h => by
  rcases h1 with e | e
  · rw [e] at h; exact absurd h.1 (by simp)
  · exact e h.2
/-- so far -/
def WkAt (n : Int) (l : List Lk) (s : Int) (xs : List St) (i : Nat) (out : List Int) (at_ : Int) : Prop := walkT n l s (xs.take i) = some (out, at_)
theorem wkAt_start (s : Int) (xs : List St) : WkAt n l s xs 0 [s] s := rfl
theorem WkAt.len {s : Int} {xs : List St} {i : Nat} {out : List Int} {at_ : Int} (h : WkAt n l s xs i out at_) : out.length ≤ 1 + 64 * i := by
  have h1 := walkF_len _ _ _ h
  simp only [List.length_take, List.length_cons, List.length_nil] at h1
  omega
theorem WkAt.next {s : Int} {xs : List St} {i : Nat} {out : List Int} {at_ : Int} (h : WkAt n l s xs i out at_) {x : St} (hx : xs[i]? = some x) (h1 : okS n l x = true) (h2 : x.f = at_) : WkAt n l s xs (i + 1) (out ++ (wayS n l x).tail) x.t := by
  unfold WkAt at *
  rw [walkT_snoc hx, h]
  exact stepW_ok h1 h2
theorem WkAt.bad {s : Int} {xs : List St} {i : Nat} {out : List Int} {at_ : Int} (h : WkAt n l s xs i out at_) {x : St} (hx : xs[i]? = some x) (h1 : okS n l x = false ∨ x.f ≠ at_) {d : Int} : walkV n l s d xs = [] := by
  have h2 : walkT n l s (xs.take (i + 1)) = none := by
    rw [walkT_snoc hx, show walkT n l s (xs.take i) = _ from h]
    exact stepW_no h1
  unfold walkV walkO
  rw [walkT_cut h2]
  split <;> rfl
theorem WkAt.last {s d : Int} {xs : List St} {i : Nat} {out : List Int} {at_ : Int} (h : WkAt n l s xs i out at_) (hi : xs.length ≤ i) (hr : (rightG n l s && rightG n l d) = true) (h1 : okS n l ⟨false, at_, d⟩ = true) : walkV n l s d xs = out ++ (wayS n l ⟨false, at_, d⟩).tail := by
  unfold WkAt at h
  rw [List.take_of_length_le hi] at h
  unfold walkV walkO
  rw [if_pos hr, h]
  show (match stepW n l (out, at_) ⟨false, at_, d⟩ with | some z => z.1 | none => []) = _
  rw [stepW_ok h1 rfl]
theorem WkAt.lost {s d : Int} {xs : List St} {i : Nat} {out : List Int} {at_ : Int} (h : WkAt n l s xs i out at_) (hi : xs.length ≤ i) (h1 : okS n l ⟨false, at_, d⟩ = false) : walkV n l s d xs = [] := by
  unfold WkAt at h
  rw [List.take_of_length_le hi] at h
  unfold walkV walkO
  rw [h]
  show (if _ then (match stepW n l (out, at_) ⟨false, at_, d⟩ with | some z => z.1 | none => []) else []) = _
  rw [stepW_no (.inl h1)]
  split <;> rfl
/-- a lowest way is one, if there is any -/
theorem path_okay (hg : GOk n l) (a b : Int) : (costG l (pathG n l a b)).isSome = !(pathG n l a b).isEmpty := by
  unfold pathG
  split
  · by_cases h : D l a b < 0
    · rw [pathL_no h]; rfl
    · rw [path_cost hg (D l a b).toNat a (by omega) (by omega)]
      obtain ⟨r, hr⟩ := pathL_head hg (a := a) (t := b) (by omega)
      rw [hr]; rfl
  · rfl
theorem way_nonempty {x : St} (h : okS n l x = true) : ∃ a r, wayS n l x = a :: r := by
  unfold okS at h
  cases hw : wayS n l x with
  | nil => rw [hw] at h; exact absurd h (by simp [costG])
  | cons a r => exact ⟨a, r, rfl⟩
theorem okS_path (hg : GOk n l) (a b : Int) : okS n l ⟨false, a, b⟩ = !(pathG n l a b).isEmpty := path_okay hg a b
end
end Go.Proofs.Ytmdcfiejkbhgpaa
/-
  What the laws RepairAround and RepairNear ask, plainly. No program in sight.
-/
namespace Go.Proofs.Ytmdcfiejkbhgpaa

/-- each is so of the next one -/
def Chn (R : Int → Int → Prop) : Int → List Int → Prop
  | _, [] => True
  | a, b :: r => R a b ∧ Chn R b r
theorem chn_append {R : Int → Int → Prop} : ∀ {p q : List Int} {a : Int}, Chn R a p → Chn R (p.getLastD a) q → Chn R a (p ++ q)
  | [], _, _, _, h2 => h2
  | b :: p, q, a, h1, h2 => ⟨h1.1, chn_append h1.2 (by
      have e : (b :: p).getLastD a = p.getLastD b := by cases p <;> rfl
      rwa [e] at h2)⟩
theorem chn_at {R : Int → Int → Prop} : ∀ {r : List Int} {a : Int}, Chn R a r → ∀ (i : Nat) (x y : Int), (a :: r)[i]? = some x → (a :: r)[i + 1]? = some y → R x y
  | [], a, _, i, x, y, hx, hy => by simp at hy
  | b :: r, a, h, 0, x, y, hx, hy => by simp at hx hy; subst hx hy; exact h.1
  | b :: r, a, h, i + 1, x, y, hx, hy => chn_at h.2 i x y (by simpa using hx) (by simpa using hy)
theorem lastD_append : ∀ (p q : List Int) (a : Int), (p ++ q).getLastD a = q.getLastD (p.getLastD a)
  | [], q, a => rfl
  | b :: p, q, a => by
    have e : (b :: p).getLastD a = p.getLastD b := by cases p <;> rfl
    have e2 : ((b :: p) ++ q).getLastD a = (p ++ q).getLastD b := by
      show (b :: (p ++ q)).getLastD a = _
      cases (p ++ q) <;> rfl
    rw [e, e2, lastD_append p q b]
theorem lastD_at : ∀ (r : List Int) (a : Int), (a :: r)[r.length]? = some (r.getLastD a)
  | [], a => rfl
  | b :: r, a => by
    have e : (b :: r).getLastD a = r.getLastD b := by cases r <;> rfl
    rw [e, List.length_cons, List.getElem?_cons_succ]
    exact lastD_at r b
/-- a link, and none of those between the two -/
def Okk (l : List Lk) (s e : Int) (x y : Int) : Prop := (linkC l x y).isSome = true ∧ ¬ (x = s ∧ y = e) ∧ ¬ (x = e ∧ y = s)
theorem chn_cost {l : List Lk} {s e : Int} : ∀ {r : List Int} {a : Int}, Chn (Okk l s e) a r → (costF l a r).isSome = true
  | [], _, _ => rfl
  | b :: r, a, h => by
    have ih := chn_cost h.2
    obtain ⟨k, hk⟩ := Option.isSome_iff_exists.1 h.1.1
    obtain ⟨c, hc⟩ := Option.isSome_iff_exists.1 ih
    rw [costF, hk, hc]
    rfl
/-- a way that is one is a walk -/
theorem costF_wk {n : Int} {l : List Lk} (hg : GOk n l) : ∀ (r : List Int) (a c : Int), costF l a r = some c → Wk l a (r.getLastD a) c
  | [], a, c, h => by cases h; exact .nil
  | b :: r, a, c, h => by
    have e : (b :: r).getLastD a = r.getLastD b := by cases r <;> rfl
    rw [costF] at h
    cases hk : linkC l a b with
    | none => rw [hk] at h; cases h
    | some k =>
      cases hc : costF l b r with
      | none => rw [hk, hc] at h; cases h
      | some d =>
        rw [hk, hc] at h
        cases h
        rw [e]
        exact (Wk.one ((linkC_some hg).1 hk)).trans (costF_wk hg r b d hc)
/-- a link that a way from the next node goes over -/
theorem uses_back {n : Int} {l : List Lk} (hg : GOk n l) {a b t k p q c : Int} (hk : (⟨a, b, k⟩ : Lk) ∈ l) (_hb : 0 ≤ D l b t) (hd : k + D l b t = D l a t) (hc : (⟨p, q, c⟩ : Lk) ∈ l) (hu : usesD l b t p q c) : usesD l a t p q c := by
  obtain ⟨h1, h2, h3⟩ := hu
  have h4 := D_edgeL hg.pos h1 hk
  have h5 := D_edgeL hg.pos h2 hc
  have h6 := D_tri hg.pos h4.1 h5.1
  exact ⟨h4.1, h2, by omega⟩
/-- a lowest way none of which goes over a link between the two -/
theorem clean_chn {n : Int} {l : List Lk} (hg : GOk n l) {s e t : Int} : ∀ (k : Nat) (a : Int), 0 ≤ D l a t → D l a t ≤ k → (∀ c, (⟨s, e, c⟩ : Lk) ∈ l → ¬ usesD l a t s e c) → (∀ c, (⟨e, s, c⟩ : Lk) ∈ l → ¬ usesD l a t e s c) →
    ∃ r, pathL n l a t = a :: r ∧ Chn (Okk l s e) a r ∧ r.getLastD a = t := by
  intro k
  induction k with
  | zero =>
    intro a h0 h1 _ _
    have e : a = t := (D_zero hg.pos).1 (by omega)
    subst e
    exact ⟨[], pathL_end hg a, trivial, rfl⟩
  | succ k ih =>
    intro a h0 h1 hu hv
    by_cases e : a = t
    · subst e
      exact ⟨[], pathL_end hg a, trivial, rfl⟩
    · have hd := D_pos hg.pos h0 e
      obtain ⟨b, r, hb, hn⟩ := nexts_cons hg hd
      obtain ⟨_, c, hc, hb0, hbe⟩ := hn
      have hc1 := hg.pos _ hc
      simp only at hc1
      obtain ⟨q, hq, hch, hla⟩ := ih b hb0 (by omega) (fun c' hc' h => hu c' hc' (uses_back hg hc hb0 hbe hc' h)) (fun c' hc' h => hv c' hc' (uses_back hg hc hb0 hbe hc' h))
      refine ⟨b :: q, by rw [pathL_step hg hd hb, hq], ⟨⟨by rw [(linkC_some hg).2 hc]; rfl, ?_, ?_⟩, hch⟩, ?_⟩
      · rintro ⟨rfl, rfl⟩
        exact hu c hc ⟨by rw [D_self hg.pos]; omega, hb0, by rw [D_self hg.pos]; omega⟩
      · rintro ⟨rfl, rfl⟩
        exact hv c hc ⟨by rw [D_self hg.pos]; omega, hb0, by rw [D_self hg.pos]; omega⟩
      · rw [← hla]; cases q <;> rfl
theorem usesG_of {n : Int} {l : List Lk} (hg : GOk n l) {a b p q c : Int} (ha : 0 ≤ a ∧ a < n) (hb : 0 ≤ b ∧ b < n) (hc : (⟨p, q, c⟩ : Lk) ∈ l) (hu : usesD l a b p q c) : usesG n l a b p q = true := by
  have hok := hg.ok _ hc
  simp only at hok
  unfold usesG
  rw [rightG_in hg ha, rightG_in hg hb, rightG_in hg ⟨hok.1, hok.2.1⟩, rightG_in hg ⟨hok.2.2.1, hok.2.2.2.1⟩, (usesV_iff hg).2 ⟨c, hc, hu⟩]
  rfl
theorem clean_parts {n : Int} {l : List Lk} {s e a b : Int} (h : cleanV n l s e a b = true) : 0 ≤ D l a b ∧ usesG n l a b s e = false ∧ usesG n l a b e s = false := by
  unfold cleanV at h
  simp at h
  exact ⟨h.1.1, h.1.2, h.2⟩
/-- the lowest way between two nodes of which one comes to the other as ever -/
theorem clean_way {n : Int} {l : List Lk} (hg : GOk n l) {s e a b : Int} (ha : 0 ≤ a ∧ a < n) (hb : 0 ≤ b ∧ b < n) (h : cleanV n l s e a b = true) :
    ∃ r, pathG n l a b = a :: r ∧ Chn (Okk l s e) a r ∧ r.getLastD a = b := by
  obtain ⟨h0, h1, h2⟩ := clean_parts h
  unfold pathG
  rw [if_pos ⟨rightG_in hg ha, rightG_in hg hb⟩]
  exact clean_chn hg (D l a b).toNat a h0 (by omega) (fun c hc hu => by rw [usesG_of hg ha hb hc hu] at h1; cases h1) (fun c hc hu => by rw [usesG_of hg ha hb hc hu] at h2; cases h2)
/-- the next node of a lowest way -/
theorem path_link {n : Int} {l : List Lk} (hg : GOk n l) {a t : Int} (h0 : 0 ≤ D l a t) {i : Nat} {x y : Int} (hx : (pathL n l a t)[i]? = some x) (hy : (pathL n l a t)[i + 1]? = some y) : ∃ c, (⟨x, y, c⟩ : Lk) ∈ l := by
  obtain ⟨h1, h2, _, _⟩ := path_part hg (D l a t).toNat a h0 (by omega) i x hx
  have h3 : (pathL n l x t)[1]? = some y := by rw [h1, List.getElem?_drop]; exact hy
  by_cases e : x = t
  · subst e
    rw [pathL_end hg] at h3
    simp at h3
  · have hd := D_pos hg.pos h2 e
    obtain ⟨b, r, hb, hn⟩ := nexts_cons hg hd
    obtain ⟨_, c, hc, hb0, _⟩ := hn
    obtain ⟨q, hq⟩ := pathL_head hg (a := b) (t := t) hb0
    rw [pathL_step hg hd hb, hq] at h3
    simp at h3
    subst h3
    exact ⟨c, hc⟩
theorem without_ok {n : Int} {l : List Lk} (hg : GOk n l) (s e : Int) : GOk n (withoutG l s e) := hg.fewer List.filter_sublist
theorem without_link {n : Int} {l : List Lk} (hg : GOk n l) {s e x y c : Int} (h : (⟨x, y, c⟩ : Lk) ∈ withoutG l s e) : Okk l s e x y := by
  obtain ⟨h1, h2⟩ := List.mem_filter.1 h
  unfold keepB at h2
  simp at h2
  refine ⟨by rw [(linkC_some hg).2 h1]; rfl, ?_, ?_⟩
  · rintro ⟨h3, h4⟩; rcases h2.1 with h5 | h5
    · exact h5 h3
    · exact h5 h4
  · rintro ⟨h3, h4⟩; rcases h2.2 with h5 | h5
    · exact h5 h3
    · exact h5 h4
section
variable {n : Int} {l : List Lk} {s e d : Int}
/-- the way behind the cut of nodes that may be -/
theorem after_in (hg : GOk n l) (hs : 0 ≤ s ∧ s < n) (he : 0 ≤ e ∧ e < n) (hd : 0 ≤ d ∧ d < n) : afterV n l s e d = pathL n (withoutG l s e) s d := by
  unfold afterV pathG
  rw [if_pos (by rw [rightG_in hg hs, rightG_in hg he]; rfl), if_pos ⟨rightG_in (without_ok hg s e) hs, rightG_in (without_ok hg s e) hd⟩]
theorem after_none (hg : GOk n l) (hs : 0 ≤ s ∧ s < n) (he : 0 ≤ e ∧ e < n) (hd : 0 ≤ d ∧ d < n) : decide (afterV n l s e d ≠ []) = decide (0 ≤ D (withoutG l s e) s d) := by
  rw [after_in hg hs he hd]
  by_cases h : 0 ≤ D (withoutG l s e) s d
  · obtain ⟨r, hr⟩ := pathL_head (without_ok hg s e) h
    rw [hr]; simp [h]
  · rw [pathL_no (by omega)]; simp; omega
theorem stepsL_len {cl : Int → Int → Bool} {way : List Int} {d : Int} (hself : cl d d = true) (hend : ∀ i, i + 1 = way.length → wAt way i = d) : ∀ (f i : Nat), i < way.length → (stepsL cl way d f i).length + i + 1 ≤ way.length
  | 0, i, h => by simp [stepsL]; omega
  | f + 1, i, h => by
    unfold stepsL
    by_cases hc : cl (wAt way i) d = true
    · rw [if_pos hc]; simp; omega
    · rw [if_neg hc, List.length_cons]
      have hi : i + 1 < way.length := by
        by_cases e1 : i + 1 = way.length
        · rw [hend i e1] at hc; exact absurd hself hc
        · omega
      have hk : i < (hopK cl way i).2 ∧ (hopK cl way i).2 < way.length := by
        unfold hopK
        cases hl : lastK cl way i with
        | none => exact ⟨by simp, hi⟩
        | some k =>
          obtain ⟨h1, h2, _⟩ := downK_is hl
          simp at h2
          exact ⟨h2.1, h1⟩
      have := stepsL_len hself hend f _ hk.2
      omega
/-- the steps from a node of the way on lead to the end, and over no link between the two -/
theorem steps_walk (hg : GOk n l) {way : List Int} (hrg : ∀ i, i < way.length → 0 ≤ wAt way i ∧ wAt way i < n) (hd : 0 ≤ d ∧ d < n) (hend : ∀ i, i + 1 = way.length → wAt way i = d)
    (hlk : ∀ i, i + 1 < way.length → Okk l s e (wAt way i) (wAt way (i + 1))) : ∀ (f i : Nat) (out : List Int), i < way.length → way.length ≤ i + f →
      ∃ q z, walkF n l (out, wAt way i) (stepsL (cleanV n l s e) way d f i) = some (out ++ q, z) ∧ (0 ≤ z ∧ z < n) ∧ cleanV n l s e z d = true ∧ Chn (Okk l s e) (wAt way i) q ∧ q.getLastD (wAt way i) = z
  | 0, i, out, h, hf => absurd hf (by omega)
  | f + 1, i, out, h, hf => by
    unfold stepsL
    by_cases hc : cleanV n l s e (wAt way i) d = true
    · rw [if_pos hc]
      exact ⟨[], wAt way i, by simp [walkF], hrg i h, hc, trivial, rfl⟩
    · rw [if_neg hc]
      have hi : i + 1 < way.length := by
        by_cases e1 : i + 1 = way.length
        · rw [hend i e1] at hc; exact absurd (clean_self hg s e) hc
        · omega
      have key : ∃ r, wayS n l ⟨(hopK (cleanV n l s e) way i).1, wAt way i, wAt way (hopK (cleanV n l s e) way i).2⟩ = wAt way i :: r ∧ Chn (Okk l s e) (wAt way i) r ∧ r.getLastD (wAt way i) = wAt way (hopK (cleanV n l s e) way i).2 ∧ i < (hopK (cleanV n l s e) way i).2 ∧ (hopK (cleanV n l s e) way i).2 < way.length := by
        unfold hopK
        cases hl : lastK (cleanV n l s e) way i with
        | none => exact ⟨[wAt way (i + 1)], by unfold wayS; simp, ⟨hlk i hi, trivial⟩, rfl, by simp, hi⟩
        | some k =>
          obtain ⟨h1, h2, _⟩ := downK_is hl
          simp at h2
          obtain ⟨r, hr1, hr2, hr3⟩ := clean_way hg (hrg i h) (hrg k h1) h2.2
          exact ⟨r, by unfold wayS; simpa using hr1, hr2, hr3, h2.1, h1⟩
      obtain ⟨r, hr1, hr2, hr3, hik, hkl⟩ := key
      have hok : okS n l ⟨(hopK (cleanV n l s e) way i).1, wAt way i, wAt way (hopK (cleanV n l s e) way i).2⟩ = true := by
        unfold okS
        rw [hr1]
        exact chn_cost hr2
      obtain ⟨q, z, h1, h2, h3, h4, h5⟩ := steps_walk hg hrg hd hend hlk f (hopK (cleanV n l s e) way i).2 (out ++ r) hkl (by omega)
      refine ⟨r ++ q, z, ?_, h2, h3, chn_append hr2 (by rw [hr3]; exact h4), by rw [lastD_append, hr3, h5]⟩
      unfold walkF
      rw [stepW_ok hok rfl, hr1]
      show walkF n l (out ++ r, _) _ = _
      rw [h1, List.append_assoc]
/-- RepairAround, plainly -/
theorem around_law (hg : GOk n l) (hs : 0 ≤ s ∧ s < n) (he : 0 ≤ e ∧ e < n) (hd : 0 ≤ d ∧ d < n) (h0 : 0 ≤ D (withoutG l s e) s d) :
    ((stepsR n l s e d).length : Int) < n ∧ (cleanV n l s e s d = true ↔ stepsR n l s e d = []) ∧
    ∃ r, walkV n l s d (stepsR n l s e d) = s :: r ∧ Chn (Okk l s e) s r ∧ r.getLastD s = d := by
  have hgw := without_ok hg s e
  have hne : afterV n l s e d ≠ [] := by
    have := after_none hg hs he hd
    rw [decide_eq_true h0] at this
    exact of_decide_eq_true this
  obtain ⟨-, -, hrg, hend, -⟩ := way_facts hne
  have hst : stepsR n l s e d = stepsV (cleanV n l s e) (afterV n l s e d) d := by unfold stepsR; rw [if_neg hne]
  have hlen : (afterV n l s e d).length ≤ n.toNat := by rw [after_in hg hs he hd]; exact path_len hgw h0 hs
  have hlk : ∀ i, i + 1 < (afterV n l s e d).length → Okk l s e (wAt (afterV n l s e d) i) (wAt (afterV n l s e d) (i + 1)) := by
    intro i hi
    unfold wAt
    rw [getD_of (List.getElem?_eq_getElem (show i < _ by omega)), getD_of (List.getElem?_eq_getElem hi)]
    have e1 := List.getElem?_eq_getElem (show i < (afterV n l s e d).length by omega)
    have e2 := List.getElem?_eq_getElem hi
    generalize (afterV n l s e d)[i] = x at *
    generalize (afterV n l s e d)[i + 1] = y at *
    rw [after_in hg hs he hd] at e1 e2
    obtain ⟨c, hc⟩ := path_link hgw h0 e1 e2
    exact without_link hg hc
  have hw0 : wAt (afterV n l s e d) 0 = s := by
    obtain ⟨r, hr⟩ := pathL_head hgw h0
    rw [after_in hg hs he hd, hr]
    rfl
  have hpos : 0 < (afterV n l s e d).length := List.length_pos_iff.2 hne
  obtain ⟨q, z, h1, h2, h3, h4, h5⟩ := steps_walk hg hrg hd hend hlk (afterV n l s e d).length 0 [s] hpos (by omega)
  rw [hw0] at h1 h4 h5
  obtain ⟨r, hr1, hr2, hr3⟩ := clean_way hg h2 hd h3
  refine ⟨?_, ?_, q ++ r, ?_, chn_append h4 (by rw [h5]; exact hr2), by rw [lastD_append, h5, hr3]⟩
  · have := stepsL_len (clean_self hg s e) hend (afterV n l s e d).length 0 hpos
    rw [hst]
    unfold stepsV
    omega
  · rw [hst]
    unfold stepsV
    obtain ⟨f, hf⟩ : ∃ f, (afterV n l s e d).length = f + 1 := ⟨(afterV n l s e d).length - 1, by omega⟩
    rw [hf]
    unfold stepsL
    rw [hw0]
    by_cases hc : cleanV n l s e s d = true
    · simp [hc]
    · simp [hc]
  · rw [hst]
    unfold walkV walkO walkT stepsV
    rw [if_pos (by rw [rightG_in hg hs, rightG_in hg hd]; rfl), h1]
    show (match stepW n l ([s] ++ q, z) ⟨false, z, d⟩ with | some z => z.1 | none => []) = _
    have hr1' : wayS n l ⟨false, z, d⟩ = z :: r := by unfold wayS; simpa using hr1
    rw [stepW_ok (by unfold okS; rw [hr1']; exact chn_cost hr2) rfl, hr1']
    simp
/-- RepairNear, plainly -/
theorem near_law (hg : GOk n l) (hs : 0 ≤ s ∧ s < n) {i : Int} (hi : 0 ≤ i ∧ i < n) (h : cleanV n l s e s i = true) : D (withoutG l s e) s i = D l s i := by
  obtain ⟨_, h1, h2⟩ := clean_parts h
  have hsub : (withoutG l s e).Sublist l := List.filter_sublist
  refine D_same hg.pos (fun x hx => hsub.subset hx) (clean_parts h).1 fun x hx hnx hu => ?_
  have key : ∀ p q, x.f = p → x.t = q → usesG n l s i p q = true := by
    intro p q hp hq
    subst hp hq
    exact usesG_of hg hs hi hx hu
  have hk : keepB s e x = false := by
    cases e1 : keepB s e x with
    | false => rfl
    | true => exact absurd (List.mem_filter.2 ⟨hx, e1⟩) hnx
  unfold keepB at hk
  simp only [Bool.and_eq_false_iff, Bool.not_eq_false', Bool.and_eq_true, beq_iff_eq] at hk
  rcases hk with ⟨h3, h4⟩ | ⟨h3, h4⟩
  · rw [key s e h3 h4] at h1; cases h1
  · rw [key e s h3 h4] at h2; cases h2
/-- a way costs no less than the least -/
theorem cost_least (hg : GOk n l) {r : List Int} {a t c : Int} (hl : r.getLastD a = t) (hc : costG l (a :: r) = some c) : D l a t ≤ c := by
  have h1 := costF_wk hg r a c hc
  rw [hl] at h1
  exact (D_le hg.pos h1).2
end
end Go.Proofs.Ytmdcfiejkbhgpaa
