/-
  spf.from: the links of each node, in a map of the call's own.
-/
import Derived.Test.YtmdcfiejkbhgpaaCheck
import Derived.Test.YtmdcfiejkbhgpaaRWithout
import Derived.Deep.RegionLaw
namespace Go.Proofs.Ytmdcfiejkbhgpaa
open Go.RowKit Go.Maps

def grp (l : List Lk) (u : Int) : List Lk := l.filter fun x => x.f == u
theorem grp_snoc (l : List Lk) (x : Lk) (u : Int) : grp (l ++ [x]) u = if x.f = u then grp l u ++ [x] else grp l u := by
  unfold grp
  rw [List.filter_append]
  by_cases h : x.f = u
  · simp [h]
  · simp [h]
theorem mem_grp {l : List Lk} {u : Int} {x : Lk} : x ∈ grp l u ↔ x ∈ l ∧ x.f = u := by simp [grp]
theorem grp_len (l : List Lk) (u : Int) : (grp l u).length ≤ l.length := List.length_filter_le _ _
def HoldF (l : List Lk) (V : Int → Value) (x v : Value) : Prop := ∃ u, x = .int .i64 u ∧ grp l u ≠ [] ∧ v = V u

/-- block bm is a map that holds each node's links, each in a row of its own -/
structure FromAt (w : World) (B bm n : Nat) (l : List Lk) (V : Int → Value) : Prop where
  map : MapV Try.prog 3 w bm n (HoldF l V)
  row : ∀ u, LksAt w B (V u) (grp l u)
  none : ∀ u, grp l u = [] → V u = .slice none 0 0
  apart : ∀ u v g, u ≠ v → (V u).ownBlock = some g → (V v).ownBlock ≠ some g
  off : ∀ u, (V u).ownBlock ≠ some bm
  lo : B ≤ bm

theorem fromAt_made (w : World) : FromAt (w.alloc (.map #[] 0)) w.heap.size w.heap.size 0 [] (fun _ => .slice none 0 0) where
  map := (mapV_made w Try.prog 3).as (Nat.le_refl _) (fun x v => by
    constructor
    · rintro ⟨u, _, h, _⟩
      exact h rfl
    · exact False.elim)
  row u := lksAt_nil _ _
  none u _ := rfl
  apart u v g _ h := by cases h
  off u h := by cases h
  lo := Nat.le_refl _
theorem FromAt.mono {w : World} {B B' bm n : Nat} {l : List Lk} {V : Int → Value} (h : FromAt w B bm n l V) (hB : B' ≤ B) : FromAt w B' bm n l V :=
  { h with row := fun u => own_mono (h.row u) hB, lo := Nat.le_trans hB h.lo }
theorem FromAt.below {w w' : World} {B bm n : Nat} {l : List Lk} {V : Int → Value} (h : FromAt w B bm n l V) (hb : Below w.heap.size w w') : FromAt w' B bm n l V :=
  { h with map := h.map.below hb, row := fun u => (h.row u).below hb }
theorem zeroL (w : World) : (zeroValue 22).run Try.prog w = .ok (.slice none 0 0) w := by kernel_rfl
/-- what the map gives at a node -/
theorem FromAt.look {w : World} {B bm n : Nat} {l : List Lk} {V : Int → Value} (h : FromAt w B bm n l V) {u : Int} (hu : Sm u) : (Instr.lookup 84 (.map (some bm)) (.int .i64 u) false).run Try.prog w = .ok (V u) w := by
  obtain ⟨v, hrun, hv⟩ := h.map.look keyedI Try.underlying84 (zeroL w) (keyI hu)
  rw [hrun]
  rcases hv with ⟨u', e, _, rfl⟩ | ⟨rfl, hno⟩
  · simp at e
    rw [e]
  · by_cases hg : grp l u = []
    · rw [h.none u hg]
    · exact absurd ⟨u, rfl, hg, rfl⟩ (hno (V u))
def setV (V : Int → Value) (f : Int) (v : Value) : Int → Value := fun u => if u = f then v else V u

/-- a link is put behind the row of its node: w1 behind the append, w2 behind the store into the map -/
theorem FromAt.step {w w1 w2 : World} {B bm n : Nat} {l : List Lk} {V : Int → Value} {x : Lk} {v : Value} (h : FromAt w B bm n l V)
    (hv : LksAt w1 B v (grp l x.f ++ [x])) (hloc : v.ownBlock = (V x.f).ownBlock ∨ v.ownBlock = some w.heap.size) (hg : w.grownBy w1 (V x.f).ownBlock)
    (hm : MapV Try.prog 3 w2 bm (n + 1) (fun y u => (y = .int .i64 x.f ∧ u = v) ∨ (y ≠ .int .i64 x.f ∧ HoldF l V y u))) (hg2 : w1.grownBy w2 (some bm)) :
    FromAt w2 B bm (n + 1) (l ++ [x]) (setV V x.f v) where
  map := hm.as (Nat.le_refl _) (fun y u => by
    unfold HoldF
    constructor
    · rintro ⟨a, rfl, hne, rfl⟩
      by_cases e : a = x.f
      · exact .inl ⟨by rw [e], by simp [setV, e]⟩
      · refine .inr ⟨by simpa using e, a, rfl, ?_, by simp [setV, e]⟩
        rw [grp_snoc, if_neg (fun h => e h.symm)] at hne
        exact hne
    · rintro (⟨rfl, rfl⟩ | ⟨hne, a, rfl, hne2, rfl⟩)
      · exact ⟨x.f, rfl, by rw [grp_snoc, if_pos rfl]; simp, by simp [setV]⟩
      · have e : a ≠ x.f := fun e => hne (by rw [e])
        exact ⟨a, rfl, by rw [grp_snoc, if_neg (fun h => e h.symm)]; exact hne2, by simp [setV, e]⟩)
  row u := by
    have hvlo := fun k hk => (World.ownsRow.lt hv k hk)
    by_cases e : u = x.f
    · subst e
      rw [grp_snoc, if_pos rfl]
      simp only [setV, if_true]
      refine World.ownsRow.kept hv hg2 ?_
      cases hb : v.ownBlock with
      | none => exact .inl rfl
      | some g =>
        refine .inr (fun e1 => ?_)
        rcases hloc with h1 | h1
        · rw [hb] at h1
          exact h.off x.f (h1.symm.trans e1)
        · rw [hb] at h1
          have := h.map.lt
          cases h1
          cases e1
          omega
    · rw [grp_snoc, if_neg (fun h => e h.symm)]
      simp only [setV, if_neg e]
      refine World.ownsRow.kept (World.ownsRow.kept (h.row u) hg ?_) hg2 ?_
      · cases hb : (V u).ownBlock with
        | none => exact .inl rfl
        | some g => exact .inr (fun e1 => h.apart u x.f g e hb e1.symm)
      · cases hb : (V u).ownBlock with
        | none => exact .inl rfl
        | some g => exact .inr (fun e1 => h.off u (hb.trans e1))
  none u hu := by
    rw [grp_snoc] at hu
    by_cases e : u = x.f
    · rw [if_pos e.symm] at hu
      simp at hu
    · rw [if_neg (fun h => e h.symm)] at hu
      simp only [setV, if_neg e]
      exact h.none u hu
  apart a b g hab ha := by
    unfold setV at ha ⊢
    by_cases e1 : a = x.f
    · rw [if_pos e1] at ha
      have e2 : ¬ b = x.f := fun e => hab (e1.trans e.symm)
      rw [if_neg e2]
      intro hb
      rcases hloc with h1 | h1
      · exact h.apart x.f b g (fun e => e2 e.symm) (h1.symm.trans ha) hb
      · have := (World.ownsRow.lt (h.row b) g hb).2
        rw [ha] at h1
        cases h1
        omega
    · rw [if_neg e1] at ha
      by_cases e2 : b = x.f
      · rw [if_pos e2]
        intro hb
        rcases hloc with h1 | h1
        · exact h.apart x.f a g (fun e => e1 e.symm) (h1.symm.trans hb) ha
        · have := (World.ownsRow.lt (h.row a) g ha).2
          rw [hb] at h1
          cases h1
          omega
      · rw [if_neg e2]
        exact h.apart a b g hab ha
  off u := by
    unfold setV
    by_cases e : u = x.f
    · rw [if_pos e]
      intro hb
      rcases hloc with h1 | h1
      · exact h.off x.f (h1.symm.trans hb)
      · have := h.map.lt
        rw [hb] at h1
        cases h1
        omega
    · rw [if_neg e]
      exact h.off u
  lo := h.lo

/-- a link put behind a row of the call's own, in a region that draws -/
theorem step_link {ops : Array Oper} {o : Oper} {a : Act} {w : World} {K : Act → World → Prop} {Q : Exit → Act → World → Prop} {E : Prop} (hgd : o.guard = none) (s x : Operand)
    (ho : o.op = .call { callee := .builtin .append, args := #[s, x], argTypes := #[22, 22] })
    (B : Nat) (v : Value) (l : List Lk) (z : Lk) (hs : a.eval s = v) (hown : LksAt w B v l) (b : Nat) (hx : a.eval x = .slice (some ⟨b, 0, none⟩) 1 1) (hr : ∀ j u, (lkc z)[j]? = some u → w.cell? ((⟨b, 0, none⟩ : Addr).add j) = some u)
    (hsz : l.length ≤ 1000000) (hB : B ≤ w.heap.size)
    (h : ∀ v' w', LksAt w' B v' (l ++ [z]) → (v'.ownBlock = v.ownBlock ∨ v'.ownBlock = some w.heap.size) → w.grownBy w' v.ownBlock → K (a.put o.dst v') w') :
    if Region.wanted o (yielded ops a.tmps) = true then Oper.wp Try.prog o a w K Q else E := by
  have hw : Region.wanted o (yielded ops a.tmps) = true := by simp [Region.wanted, hgd]
  rw [if_pos hw]
  obtain ⟨i0, hi, hz0, hz1, hz2⟩ := info_parts Try.info_link
  obtain ⟨v', w', hrun, hown', hg, hnil, hat⟩ := run_append_own_at (P := Try.prog) w B 22 o.type 34 i0 (.agg #[.int .i64 0, .int .i64 0, .int .i64 0]) 3 24 Try.underlying22 hi hz0 hz1 hz2 rfl (by decide) v l.length _ hown ⟨b, 0, none⟩ 1 1 (lkc z) rfl hr (lkc_one z) (by unfold maxLen; omega) (by omega) hB
  unfold Oper.wp
  simp [execOp, ho, resolve, invoke, builtin, hs, hx, hrun, Result.andThen]
  refine h v' w' ?_ hat hg
  unfold LksAt
  rw [flatE_append, List.length_append]
  have e : flatE lkc [z] = lkc z := by simp [flatE]
  rw [e]
  exact hown'
end Go.Proofs.Ytmdcfiejkbhgpaa
