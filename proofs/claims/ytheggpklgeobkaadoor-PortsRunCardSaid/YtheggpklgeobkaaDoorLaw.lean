/-
  Interfaces, by number: what is done to them, and their row by rising numbers. No program in sight.
-/
import Derived.Test.YtheggpklgeobkaaDoorMem
namespace Go.Proofs.YtheggpklgeobkaaDoor

/-- interfaces: of each number, if there is one, how great a packet may be, and whether it is up -/
abbrev PS := Nat → Option (Int × Bool)
/-- one of the row: its number, how great a packet may be, whether it is up -/
structure Pe where
  num : Int
  mtu : Int
  up : Bool
deriving DecidableEq
instance : Inhabited Pe := ⟨⟨0, 0, false⟩⟩
def entP (S : PS) (i : Nat) : Option Pe := (S i).map fun x => ⟨i, x.1, x.2⟩
/-- the row of the first k numbers -/
def lstT (S : PS) (k : Nat) : List Pe := (List.range k).filterMap (entP S)
def lst (S : PS) : List Pe := lstT S 64
def updP (S : PS) (k : Nat) (x : Option (Int × Bool)) : PS := fun i => if i = k then x else S i
def inP (n : Int) : Prop := 0 ≤ n ∧ n ≤ 63
instance (n : Int) : Decidable (inP n) := by unfold inP; infer_instance

def addE (S : PS) (n mtu : Int) : Int := if ¬ inP n then 50 else if mtu < 68 ∨ 65535 < mtu then 1 else if (S n.toNat).isSome then 32 else 0
def addS (S : PS) (n mtu : Int) : PS := if addE S n mtu = 0 then updP S n.toNat (some (mtu, true)) else S
def hasE (S : PS) (n : Int) : Int := if ¬ inP n then 50 else if (S n.toNat).isSome then 0 else 31
def remS (S : PS) (n : Int) : PS := if hasE S n = 0 then updP S n.toNat none else S
def setS (S : PS) (n : Int) (u : Bool) : PS := if hasE S n = 0 then updP S n.toNat ((S n.toNat).map fun x => (x.1, u)) else S
def upS (S : PS) (n : Int) : Bool := decide (inP n) && match S n.toNat with | some x => x.2 | none => false
def mtuS (S : PS) (n : Int) : Int := if inP n then (match S n.toNat with | some x => x.1 | none => 0) else 0

theorem lstT_zero (S : PS) : lstT S 0 = [] := rfl
theorem lstT_succ (S : PS) (k : Nat) : lstT S (k + 1) = lstT S k ++ (entP S k).toList := by
  unfold lstT
  rw [List.range_succ, List.filterMap_append]
  cases h : entP S k <;> simp [h]
theorem lstT_none {S : PS} {k : Nat} (h : S k = none) : lstT S (k + 1) = lstT S k := by rw [lstT_succ, entP, h]; simp
theorem lstT_some {S : PS} {k : Nat} {x : Int × Bool} (h : S k = some x) : lstT S (k + 1) = lstT S k ++ [⟨k, x.1, x.2⟩] := by rw [lstT_succ, entP, h]; rfl
theorem lstT_len (S : PS) (k : Nat) : (lstT S k).length ≤ k := by
  unfold lstT; exact Nat.le_trans (List.length_filterMap_le _ _) (by simp)
theorem lstT_mem {S : PS} {k : Nat} {e : Pe} (h : e ∈ lstT S k) : ∃ i : Nat, i < k ∧ e.num = i ∧ S i = some (e.mtu, e.up) := by
  unfold lstT at h
  obtain ⟨i, hi, he⟩ := List.mem_filterMap.1 h
  rw [List.mem_range] at hi
  unfold entP at he
  cases hs : S i with
  | none => rw [hs] at he; cases he
  | some x => rw [hs] at he; cases he; exact ⟨i, hi, rfl, hs⟩
theorem lstT_congr {S T : PS} {k : Nat} (h : ∀ i, i < k → S i = T i) : lstT S k = lstT T k := by
  induction k with
  | zero => rfl
  | succ k ih => rw [lstT_succ, lstT_succ, ih (fun i hi => h i (by omega)), entP, entP, h k (by omega)]
theorem fm_congr {α β : Type} {f g : α → Option β} : ∀ {l : List α}, (∀ i ∈ l, f i = g i) → l.filterMap f = l.filterMap g
  | [], _ => rfl
  | a :: l, h => by rw [List.filterMap_cons, List.filterMap_cons, h a (by simp), fm_congr (fun i hi => h i (by simp [hi]))]
/-- the row behind the first k numbers -/
def lstR (S : PS) (k : Nat) : List Pe := ((List.range (64 - k)).map fun i => k + i).filterMap (entP S)
theorem lst_split (S : PS) {k : Nat} (h : k ≤ 64) : lst S = lstT S k ++ lstR S k := by
  unfold lst lstT lstR
  rw [← List.filterMap_append]
  congr 1
  conv => lhs; rw [show 64 = k + (64 - k) by omega, List.range_add]
theorem lstR_mem {S : PS} {k : Nat} {e : Pe} (h : e ∈ lstR S k) : ∃ i : Nat, k ≤ i ∧ e.num = i ∧ S i = some (e.mtu, e.up) := by
  unfold lstR at h
  obtain ⟨i, hi, he⟩ := List.mem_filterMap.1 h
  obtain ⟨j, _, rfl⟩ := List.mem_map.1 hi
  unfold entP at he
  cases hs : S (k + j) with
  | none => rw [hs] at he; cases he
  | some x => rw [hs] at he; cases he; exact ⟨k + j, by omega, rfl, hs⟩
theorem lstR_congr {S T : PS} {k : Nat} (h : ∀ i, k ≤ i → S i = T i) : lstR S k = lstR T k := by
  unfold lstR
  refine fm_congr fun i hi => ?_
  obtain ⟨j, _, rfl⟩ := List.mem_map.1 hi
  rw [entP, entP, h _ (by omega)]
theorem lstR_step (S : PS) {k : Nat} (h : k < 64) : lstR S k = (entP S k).toList ++ lstR S (k + 1) := by
  unfold lstR
  rw [show 64 - k = (64 - (k + 1)) + 1 by omega, List.range_succ_eq_map, List.map_cons, List.map_map, List.filterMap_cons]
  have e : (fun i => k + i) ∘ Nat.succ = fun i => k + 1 + i := by funext i; simp; omega
  rw [e]
  cases hE : entP S (k + 0) with
  | none => rw [Nat.add_zero] at hE; simp
  | some x => rw [Nat.add_zero] at hE; simp

/-- where a number stands, or would -/
def posL (l : List Pe) (n : Int) : Nat := (l.takeWhile fun e => decide (e.num < n)).length
def isL (l : List Pe) (n : Int) : Bool := match l[posL l n]? with | some e => e.num == n | none => false
theorem tw_append {p : Pe → Bool} : ∀ {a b : List Pe}, (∀ x ∈ a, p x = true) → (∀ x, b.head? = some x → p x = false) → ((a ++ b).takeWhile p) = a := by
  intro a
  induction a with
  | nil =>
    intro b _ hb
    cases b with
    | nil => rfl
    | cons x b => rw [List.nil_append, List.takeWhile_cons, hb x rfl]; rfl
  | cons x a ih =>
    intro b ha hb
    rw [List.cons_append, List.takeWhile_cons, ha x (by simp)]
    simp only [if_true]
    rw [ih (fun y hy => ha y (by simp [hy])) hb]
theorem pos_lst (S : PS) {k : Nat} (h : k < 64) : posL (lst S) (k : Int) = (lstT S k).length := by
  unfold posL
  rw [lst_split S (k := k) (by omega), tw_append]
  · intro x hx
    obtain ⟨i, hi, he, _⟩ := lstT_mem hx
    simp [he]; omega
  · intro x hx
    obtain ⟨i, hi, he, _⟩ := lstR_mem (List.mem_of_mem_head? hx)
    simp [he]; omega
theorem at_lst (S : PS) {k : Nat} (h : k < 64) : (lst S)[(lstT S k).length]? = (lstR S k).head? := by
  rw [lst_split S (k := k) (by omega), List.getElem?_append_right (Nat.le_refl _), Nat.sub_self]
  cases lstR S k <;> rfl
theorem is_lst (S : PS) {k : Nat} (h : k < 64) : isL (lst S) (k : Int) = (S k).isSome := by
  unfold isL
  rw [pos_lst S h, at_lst S h, lstR_step S h, entP]
  cases hs : S k with
  | some x => simp
  | none =>
    simp only [Option.map_none, Option.toList_none, List.nil_append]
    cases hr : lstR S (k + 1) with
    | nil => rfl
    | cons e l =>
      obtain ⟨i, hi, he, _⟩ := lstR_mem (S := S) (k := k + 1) (e := e) (by rw [hr]; simp)
      simp [he]; omega
theorem is_out (S : PS) {n : Int} (h : ¬ inP n) : isL (lst S) n = false := by
  unfold isL
  cases he : (lst S)[posL (lst S) n]? with
  | none => rfl
  | some e =>
    obtain ⟨i, hi, hn, _⟩ := lstT_mem (List.mem_of_getElem? he)
    simp only [beq_eq_false_iff_ne]
    unfold inP at h
    omega
theorem lst_add {S : PS} {k : Nat} (h : k < 64) (hs : S k = none) (x : Int × Bool) : (lst S).take (lstT S k).length ++ [⟨(k : Int), x.1, x.2⟩] ++ (lst S).drop (lstT S k).length = lst (updP S k (some x)) := by
  rw [lst_split S (k := k) (by omega), List.take_left, List.drop_left, lst_split (updP S k (some x)) (k := k) (by omega), lstR_step _ h, lstR_step _ h]
  rw [lstT_congr (S := updP S k (some x)) (T := S) (fun i hi => by unfold updP; rw [if_neg (by omega)]), lstR_congr (S := updP S k (some x)) (T := S) (k := k + 1) (fun i hi => by unfold updP; rw [if_neg (by omega)])]
  unfold entP
  rw [hs]
  simp [updP]
theorem lst_rem {S : PS} {k : Nat} (h : k < 64) {x : Int × Bool} (hs : S k = some x) : (lst S).take (lstT S k).length ++ (lst S).drop ((lstT S k).length + 1) = lst (updP S k none) := by
  rw [← List.drop_drop, lst_split S (k := k) (by omega), List.take_left, List.drop_left, lst_split (updP S k none) (k := k) (by omega), lstR_step _ h, lstR_step _ h]
  rw [lstT_congr (S := updP S k none) (T := S) (fun i hi => by unfold updP; rw [if_neg (by omega)]), lstR_congr (S := updP S k none) (T := S) (k := k + 1) (fun i hi => by unfold updP; rw [if_neg (by omega)])]
  unfold entP
  rw [hs]
  simp [updP]
theorem lst_at {S : PS} {k : Nat} (h : k < 64) {x : Int × Bool} (hs : S k = some x) : (lst S)[(lstT S k).length]? = some ⟨(k : Int), x.1, x.2⟩ := by
  rw [at_lst S h, lstR_step S h, entP, hs]; rfl
theorem lst_set {S : PS} {k : Nat} (h : k < 64) {x : Int × Bool} (hs : S k = some x) (u : Bool) : (lst S).set (lstT S k).length ⟨(k : Int), x.1, u⟩ = lst (updP S k (some (x.1, u))) := by
  rw [lst_split S (k := k) (by omega), lst_split (updP S k (some (x.1, u))) (k := k) (by omega), lstR_step _ h, lstR_step _ h]
  rw [lstT_congr (S := updP S k (some (x.1, u))) (T := S) (fun i hi => by unfold updP; rw [if_neg (by omega)]), lstR_congr (S := updP S k (some (x.1, u))) (T := S) (k := k + 1) (fun i hi => by unfold updP; rw [if_neg (by omega)])]
  rw [List.set_append_right _ _ (Nat.le_refl _), Nat.sub_self]
  unfold entP
  rw [hs]
  simp [updP]
theorem lst_len (S : PS) : (lst S).length ≤ 64 := lstT_len S 64
theorem nat_of_inP {n : Int} (h : inP n) : ∃ k : Nat, n = k ∧ k < 64 := ⟨n.toNat, by have := h.1; omega, by have := h.1; have := h.2; omega⟩
end Go.Proofs.YtheggpklgeobkaaDoor
