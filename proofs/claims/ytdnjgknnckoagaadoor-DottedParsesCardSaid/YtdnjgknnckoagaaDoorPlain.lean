/-
  The plain law: a text is an address just if it is the four numbers' text; both machines say so. No program in sight.
-/
import Derived.Test.YtdnjgknnckoagaaDoorParse
import Derived.Test.YtdnjgknnckoagaaDoorNum
namespace Go.Proofs.YtdnjgknnckoagaaDoor

/-- the first k numbers, a point behind each -/
def pres (f : Nat → Int) : Nat → List UInt8
  | 0 => []
  | k + 1 => pres f k ++ (Lib.itoa (f k) ++ [46])
theorem pres_congr {f g : Nat → Int} {k : Nat} (h : ∀ i, i < k → f i = g i) : pres f k = pres g k := by
  induction k with
  | zero => rfl
  | succ k ih => rw [pres, pres, ih (fun i hi => h i (by omega)), h k (by omega)]
theorem pres_upd (f : Nat → Int) (k : Nat) (n : Int) : pres (upd4 f k n) (k + 1) = pres f k ++ (Lib.itoa n ++ [46]) := by
  rw [pres, pres_congr (g := f) (fun i hi => by simp [upd4]; omega)]
  simp [upd4]
theorem show_pres (f : Nat → Int) : showA (f 0) (f 1) (f 2) (f 3) = pres f 3 ++ Lib.itoa (f 3) := by
  simp [showA, dots, ith, pres]
theorem upd_by8 {f : Nat → Int} {k : Nat} {n : Int} (h : ∀ i, i < k → by8 (f i)) (hn : by8 n) : ∀ i, i < k + 1 → by8 (upd4 f k n i) := by
  intro i hi
  unfold upd4
  split
  · exact hn
  · exact h i (by omega)
theorem itoa_nat (n : Nat) : Lib.itoa (n : Int) = Lib.decDigits n := by unfold Lib.itoa; rw [if_neg (by omega)]; simp
theorem u8_of (c : UInt8) {d : Nat} (h : c.toNat = 48 + d) : c = UInt8.ofNat (48 + d) := by
  rw [← h]; simp

/-- what the program's machine has read -/
structure InvP (pre : List UInt8) (t : PSt) : Prop where
  txt : ∃ part, pre = pres t.f t.k ++ part ∧ ((t.g = 0 ∧ t.n = 0 ∧ part = []) ∨ (0 < t.g ∧ t.n ≤ 255 ∧ part = Lib.decDigits t.n))
  k4 : t.k ≤ 4
  by8s : ∀ i, i < t.k → by8 (t.f i)
theorem InvP.step {pre : List UInt8} {t u : PSt} {c : UInt8} (h : InvP pre t) (hs : stepP t c.toNat = some u) : InvP (pre ++ [c]) u := by
  obtain ⟨⟨part, rfl, hp⟩, hk, hb⟩ := h
  unfold stepP at hs
  split at hs
  · rename_i h46
    unfold endP at hs
    split at hs
    · cases hs
    · rename_i hg
      cases hs
      obtain ⟨h0, -, -⟩ | ⟨h0, hn, rfl⟩ := hp
      · omega
      · have hc : c = 46 := by have : c = UInt8.ofNat c.toNat := by simp
                               rw [this, h46]; rfl
        refine ⟨⟨[], ?_, Or.inl ⟨rfl, rfl, rfl⟩⟩, by simp only; omega, ?_⟩
        · rw [pres_upd, itoa_nat, hc]; simp
        · exact upd_by8 hb ⟨by omega, by omega⟩
  · split at hs
    · cases hs
    · split at hs
      · cases hs
      · rename_i h46 hbad h255
        cases hs
        refine ⟨⟨part ++ [c], by simp, Or.inr ⟨by simp only; omega, by simp only; omega, ?_⟩⟩, hk, hb⟩
        have hc := u8_of c (d := c.toNat - 48) (by omega)
        obtain ⟨h0, hn, rfl⟩ | ⟨h0, hn, rfl⟩ := hp
        · simp only [hn]
          rw [decD_one _ (by omega), List.nil_append, Nat.mul_zero, Nat.zero_add, ← hc]
        · simp only
          rw [decD_step (10 * t.n + (c.toNat - 48)) (by omega), show (10 * t.n + (c.toNat - 48)) / 10 = t.n by omega, show (10 * t.n + (c.toNat - 48)) % 10 = c.toNat - 48 by omega, ← hc]
theorem InvP.run {l : List UInt8} : ∀ {pre : List UInt8} {t u : PSt}, InvP pre t → runP l t = some u → InvP (pre ++ l) u := by
  induction l with
  | nil => intro pre t u h hr; cases hr; simpa using h
  | cons c l ih =>
    intro pre t u h hr
    unfold runP at hr
    cases hs : stepP t c.toNat with
    | none => rw [hs] at hr; cases hr
    | some v =>
      rw [hs] at hr
      have := ih (h.step hs) hr
      simpa using this
theorem parse_sound {l : List UInt8} {f : Nat → Int} (h : parseP l = some f) : (by8 (f 0) ∧ by8 (f 1) ∧ by8 (f 2) ∧ by8 (f 3)) ∧ l = showA (f 0) (f 1) (f 2) (f 3) := by
  unfold parseP at h
  cases hr : runP l startP with
  | none => rw [hr] at h; cases h
  | some t =>
    rw [hr] at h
    simp only [Option.bind_some] at h
    have hi : InvP ([] ++ l) t := InvP.run ⟨⟨[], rfl, Or.inl ⟨rfl, rfl, rfl⟩⟩, by decide, fun i hi => absurd hi (Nat.not_lt_zero i)⟩ hr
    rw [List.nil_append] at hi
    obtain ⟨⟨part, hl, hp⟩, hk, hb⟩ := hi
    unfold endP at h
    split at h
    · cases h
    · rename_i hg
      simp only [Option.bind_some] at h
      split at h
      · rename_i hk4
        cases h
        have hk3 : t.k = 3 := by omega
        obtain ⟨h0, -, -⟩ | ⟨h0, hn, rfl⟩ := hp
        · omega
        · have hall := upd_by8 hb (n := (t.n : Int)) ⟨by omega, by omega⟩
          rw [hk3] at hall hl
          rw [hk3]
          refine ⟨⟨hall 0 (by omega), hall 1 (by omega), hall 2 (by omega), hall 3 (by omega)⟩, ?_⟩
          rw [show_pres, hl, pres_congr (f := upd4 t.f 3 t.n) (g := t.f) (k := 3) (fun i hi => by simp [upd4]; omega), show upd4 t.f 3 t.n 3 = (t.n : Int) by simp [upd4], itoa_nat]
      · cases h

theorem runP_append (l m : List UInt8) : ∀ t, runP (l ++ m) t = (runP l t).bind (runP m) := by
  induction l with
  | nil => intro t; rfl
  | cons c l ih =>
    intro t
    rw [List.cons_append, runP, runP]
    cases stepP t c.toNat with
    | none => rfl
    | some u => exact ih u
theorem dig_nat {d : Nat} (h : d < 10) : (UInt8.ofNat (48 + d)).toNat = 48 + d := by
  rw [UInt8.toNat_ofNat']; omega
theorem runP_dig (f : Nat → Int) (k : Nat) : ∀ a : Nat, a ≤ 255 → ∃ g, 0 < g ∧ runP (Lib.decDigits a) ⟨f, k, 0, 0⟩ = some ⟨f, k, a, g⟩ := by
  intro a
  induction a using Nat.strongRecOn with
  | _ a ih =>
    intro ha
    by_cases h10 : a < 10
    · refine ⟨1, by omega, ?_⟩
      rw [decD_one a h10, runP, dig_nat h10, stepP, if_neg (by omega), if_neg (by simp; omega), if_neg (by simp; omega)]
      simp [runP]
    · obtain ⟨g, hg, hr⟩ := ih (a / 10) (by omega) (by omega)
      refine ⟨g + 1, by omega, ?_⟩
      rw [decD_step a (by omega), runP_append, hr, Option.bind_some, runP, dig_nat (by omega), stepP, if_neg (by omega), if_neg (by simp; omega), if_neg (by simp; omega)]
      simp [runP]
      omega
theorem runP_part (f : Nat → Int) {k : Nat} (hk : k < 4) {a : Int} (ha : by8 a) (m : List UInt8) : runP (Lib.itoa a ++ 46 :: m) ⟨f, k, 0, 0⟩ = runP m ⟨upd4 f k a, k + 1, 0, 0⟩ := by
  obtain ⟨n, rfl⟩ := Int.eq_ofNat_of_zero_le ha.1
  obtain ⟨g, hg, hr⟩ := runP_dig f k n (by have := ha.2; omega)
  rw [itoa_nat, runP_append, hr, Option.bind_some, runP, stepP, if_pos (show UInt8.toNat 46 = 46 from rfl), endP, if_neg (by simp only; omega), Option.bind_some]
theorem show_chain (a b c d : Int) : showA a b c d = Lib.itoa a ++ 46 :: (Lib.itoa b ++ 46 :: (Lib.itoa c ++ 46 :: Lib.itoa d)) := by
  simp [showA, dots, ith]
theorem parse_complete {a b c d : Int} (ha : by8 a) (hb : by8 b) (hc : by8 c) (hd : by8 d) : ∃ f, parseP (showA a b c d) = some f ∧ f 0 = a ∧ f 1 = b ∧ f 2 = c ∧ f 3 = d := by
  obtain ⟨n, rfl⟩ := Int.eq_ofNat_of_zero_le hd.1
  obtain ⟨g, hg, hr⟩ := runP_dig (upd4 (upd4 (upd4 (fun _ => 0) 0 a) 1 b) 2 c) 3 n (by have := hd.2; omega)
  refine ⟨upd4 (upd4 (upd4 (upd4 (fun _ => 0) 0 a) 1 b) 2 c) 3 n, ?_, by simp [upd4], by simp [upd4], by simp [upd4], by simp [upd4]⟩
  rw [parseP, show_chain, startP, runP_part _ (by omega) ha, runP_part _ (by omega) hb, runP_part _ (by omega) hc, itoa_nat, hr, Option.bind_some, endP, if_neg (by simp only; omega), Option.bind_some, if_pos rfl]

/-- the reference's machine -/
structure RSt where
  f : Nat → Int
  k : Nat
  part : List UInt8
def startR : RSt := ⟨fun _ => 0, 0, []⟩
def endR (t : RSt) : Option RSt := (numB t.part).bind fun n => if t.k = 4 then none else some ⟨upd4 t.f t.k n, t.k + 1, []⟩
def stepR (t : RSt) (c : UInt8) : Option RSt := if c.toNat = 46 then endR t else some ⟨t.f, t.k, t.part ++ [c]⟩
def runR : List UInt8 → RSt → Option RSt
  | [], t => some t
  | c :: l, t => (stepR t c).bind (runR l)
def parseR (l : List UInt8) : Option (Nat → Int) := (runR l startR).bind fun t => (endR t).bind fun u => if u.k = 4 then some u.f else none
structure InvR (pre : List UInt8) (t : RSt) : Prop where
  txt : pre = pres t.f t.k ++ t.part
  k4 : t.k ≤ 4
  by8s : ∀ i, i < t.k → by8 (t.f i)
theorem endR_some {t u : RSt} (h : endR t = some u) : ∃ n : Nat, Lib.decDigits n = t.part ∧ n ≤ 255 ∧ t.k ≠ 4 ∧ u = ⟨upd4 t.f t.k n, t.k + 1, []⟩ := by
  unfold endR at h
  cases hn : numB t.part with
  | none => rw [hn] at h; cases h
  | some n =>
    rw [hn] at h
    simp only [Option.bind_some] at h
    split at h
    · cases h
    · rename_i hk
      cases h
      exact ⟨n, (numB_sound hn).1, (numB_sound hn).2, hk, rfl⟩
theorem InvR.step {pre : List UInt8} {t u : RSt} {c : UInt8} (h : InvR pre t) (hs : stepR t c = some u) : InvR (pre ++ [c]) u := by
  obtain ⟨rfl, hk, hb⟩ := h
  unfold stepR at hs
  split at hs
  · rename_i h46
    obtain ⟨n, hn, h255, hk4, rfl⟩ := endR_some hs
    have hc : c = 46 := by have : c = UInt8.ofNat c.toNat := by simp
                           rw [this, h46]; rfl
    refine ⟨?_, by simp only; omega, upd_by8 hb ⟨by omega, by omega⟩⟩
    rw [pres_upd, itoa_nat, hn, hc]; simp
  · cases hs
    exact ⟨by simp, hk, hb⟩
theorem InvR.run {l : List UInt8} : ∀ {pre : List UInt8} {t u : RSt}, InvR pre t → runR l t = some u → InvR (pre ++ l) u := by
  induction l with
  | nil => intro pre t u h hr; cases hr; simpa using h
  | cons c l ih =>
    intro pre t u h hr
    unfold runR at hr
    cases hs : stepR t c with
    | none => rw [hs] at hr; cases hr
    | some v =>
      rw [hs] at hr
      have := ih (h.step hs) hr
      simpa using this
theorem rparse_sound {l : List UInt8} {f : Nat → Int} (h : parseR l = some f) : (by8 (f 0) ∧ by8 (f 1) ∧ by8 (f 2) ∧ by8 (f 3)) ∧ l = showA (f 0) (f 1) (f 2) (f 3) := by
  unfold parseR at h
  cases hr : runR l startR with
  | none => rw [hr] at h; cases h
  | some t =>
    rw [hr] at h
    simp only [Option.bind_some] at h
    have hi : InvR ([] ++ l) t := InvR.run ⟨rfl, by decide, fun i hi => absurd hi (Nat.not_lt_zero i)⟩ hr
    rw [List.nil_append] at hi
    obtain ⟨hl, hk, hb⟩ := hi
    cases he : endR t with
    | none => rw [he] at h; cases h
    | some u =>
      rw [he] at h
      obtain ⟨n, hn, h255, hk4, rfl⟩ := endR_some he
      simp only [Option.bind_some] at h
      split at h
      · rename_i hk5
        cases h
        have hk3 : t.k = 3 := by omega
        have hall := upd_by8 hb (n := (n : Int)) ⟨by omega, by omega⟩
        rw [hk3] at hall hl
        rw [hk3]
        refine ⟨⟨hall 0 (by omega), hall 1 (by omega), hall 2 (by omega), hall 3 (by omega)⟩, ?_⟩
        rw [show_pres, hl, pres_congr (f := upd4 t.f 3 n) (g := t.f) (k := 3) (fun i hi => by simp [upd4]; omega), show upd4 t.f 3 n 3 = (n : Int) by simp [upd4], itoa_nat, hn]
      · cases h
theorem runR_append (l m : List UInt8) : ∀ t, runR (l ++ m) t = (runR l t).bind (runR m) := by
  induction l with
  | nil => intro t; rfl
  | cons c l ih =>
    intro t
    rw [List.cons_append, runR, runR]
    cases stepR t c with
    | none => rfl
    | some u => exact ih u
theorem runR_no (f : Nat → Int) (k : Nat) : ∀ (l p : List UInt8), (∀ c ∈ l, c.toNat ≠ 46) → runR l ⟨f, k, p⟩ = some ⟨f, k, p ++ l⟩ := by
  intro l
  induction l with
  | nil => intro p _; simp [runR]
  | cons c l ih =>
    intro p h
    rw [runR, stepR, if_neg (h c (by simp)), Option.bind_some, ih _ (fun x hx => h x (by simp [hx]))]
    simp
theorem dec_dig (a : Nat) : ∀ c ∈ Lib.decDigits a, 48 ≤ c.toNat ∧ c.toNat ≤ 57 := by
  induction a using Nat.strongRecOn with
  | _ a ih =>
    intro c hc
    by_cases h10 : a < 10
    · rw [decD_one a h10, List.mem_singleton] at hc
      rw [hc, dig_nat h10]; omega
    · rw [decD_step a (by omega), List.mem_append, List.mem_singleton] at hc
      rcases hc with hc | rfl
      · exact ih _ (by omega) c hc
      · rw [dig_nat (by omega)]; omega
theorem itoa_no46 (a : Int) : ∀ c ∈ Lib.itoa a, c.toNat ≠ 46 := by
  intro c hc
  unfold Lib.itoa at hc
  split at hc
  · rw [List.mem_cons] at hc
    rcases hc with rfl | hc
    · decide
    · have := dec_dig _ c hc; omega
  · have := dec_dig _ c hc; omega
theorem valB_dec : ∀ a : Nat, a ≤ 255 → valB (Lib.decDigits a) = some a := by
  intro a
  induction a using Nat.strongRecOn with
  | _ a ih =>
    intro ha
    by_cases h10 : a < 10
    · rw [decD_one a h10, show [UInt8.ofNat (48 + a)] = [] ++ [UInt8.ofNat (48 + a)] from rfl, valB_snoc, show valB [] = some 0 from rfl, Option.bind_some, dig_nat h10, stepV, if_neg (by omega)]
      congr 1; omega
    · rw [decD_step a (by omega), valB_snoc, ih _ (by omega) (by omega), Option.bind_some, dig_nat (by omega), stepV, if_neg (by omega)]
      congr 1; omega
theorem numB_dec (a : Nat) (ha : a ≤ 255) : numB (Lib.decDigits a) = some a := by
  have h1 := decD_len a 3 (by omega)
  have h2 : Lib.decDigits a ≠ [] := by
    by_cases h10 : a < 10
    · rw [decD_one a h10]; simp
    · rw [decD_step a (by omega)]; simp
  rw [numB, if_neg (by simp [h2]; omega), valB_dec a ha, Option.bind_some, if_pos ⟨rfl, ha⟩]
theorem endR_at (f : Nat → Int) {k : Nat} (hk : k < 4) {a : Int} (ha : by8 a) : endR ⟨f, k, Lib.itoa a⟩ = some ⟨upd4 f k a, k + 1, []⟩ := by
  obtain ⟨n, rfl⟩ := Int.eq_ofNat_of_zero_le ha.1
  rw [endR, itoa_nat, numB_dec n (by have := ha.2; omega), Option.bind_some, if_neg (by simp only; omega)]
theorem runR_part (f : Nat → Int) {k : Nat} (hk : k < 4) {a : Int} (ha : by8 a) (m : List UInt8) : runR (Lib.itoa a ++ 46 :: m) ⟨f, k, []⟩ = runR m ⟨upd4 f k a, k + 1, []⟩ := by
  rw [runR_append, runR_no f k _ _ (itoa_no46 a), Option.bind_some, List.nil_append, runR, stepR, if_pos (show UInt8.toNat 46 = 46 from rfl), endR_at f hk ha, Option.bind_some]
theorem rparse_complete {a b c d : Int} (ha : by8 a) (hb : by8 b) (hc : by8 c) (hd : by8 d) : ∃ f, parseR (showA a b c d) = some f ∧ f 0 = a ∧ f 1 = b ∧ f 2 = c ∧ f 3 = d := by
  refine ⟨upd4 (upd4 (upd4 (upd4 (fun _ => 0) 0 a) 1 b) 2 c) 3 d, ?_, by simp [upd4], by simp [upd4], by simp [upd4], by simp [upd4]⟩
  rw [parseR, show_chain, startR, runR_part _ (by omega) ha, runR_part _ (by omega) hb, runR_part _ (by omega) hc, runR_no _ _ _ _ (itoa_no46 d), Option.bind_some, List.nil_append, endR_at _ (by omega) hd, Option.bind_some, if_pos rfl]

theorem row4_eq {f g : Nat → Int} (h0 : f 0 = g 0) (h1 : f 1 = g 1) (h2 : f 2 = g 2) (h3 : f 3 = g 3) : row4 f = row4 g := by
  unfold row4; rw [h0, h1, h2, h3]
/-- both answer the same -/
theorem parse_same (l : List UInt8) : outP (parseP l) = outP (parseR l) := by
  cases hp : parseP l with
  | some f =>
    obtain ⟨⟨h0, h1, h2, h3⟩, hl⟩ := parse_sound hp
    obtain ⟨g, hg, e0, e1, e2, e3⟩ := rparse_complete h0 h1 h2 h3
    rw [← hl] at hg
    rw [hg]
    simp only [outP]
    rw [row4_eq e0.symm e1.symm e2.symm e3.symm]
  | none =>
    cases hr : parseR l with
    | none => rfl
    | some f =>
      obtain ⟨⟨h0, h1, h2, h3⟩, hl⟩ := rparse_sound hr
      obtain ⟨g, hg, -⟩ := parse_complete h0 h1 h2 h3
      rw [← hl, hp] at hg
      cases hg

theorem split46 : ∀ {a b r s : List UInt8}, (∀ c ∈ a, c.toNat ≠ 46) → (∀ c ∈ b, c.toNat ≠ 46) → a ++ 46 :: r = b ++ 46 :: s → a = b ∧ r = s := by
  intro a
  induction a with
  | nil =>
    intro b r s _ hb h
    cases b with
    | nil => simpa using h
    | cons x b =>
      simp only [List.nil_append, List.cons_append, List.cons.injEq] at h
      exact absurd (congrArg UInt8.toNat h.1.symm) (hb x (by simp))
  | cons x a ih =>
    intro b r s ha hb h
    cases b with
    | nil =>
      simp only [List.nil_append, List.cons_append, List.cons.injEq] at h
      exact absurd (congrArg UInt8.toNat h.1) (ha x (by simp))
    | cons y b =>
      simp only [List.cons_append, List.cons.injEq] at h
      obtain ⟨h1, h2⟩ := ih (fun c hc => ha c (by simp [hc])) (fun c hc => hb c (by simp [hc])) h.2
      exact ⟨by rw [h.1, h1], h2⟩
/-- the number of a row of digits -/
def unD (l : List UInt8) : Nat := l.foldl (fun n c => 10 * n + (c.toNat - 48)) 0
theorem unD_dec (a : Nat) : unD (Lib.decDigits a) = a := by
  induction a using Nat.strongRecOn with
  | _ a ih =>
    by_cases h10 : a < 10
    · rw [decD_one a h10]; simp only [unD, List.foldl]; rw [dig_nat h10]; omega
    · have := ih (a / 10) (by omega)
      unfold unD at this ⊢
      rw [decD_step a (by omega), List.foldl_append, this]
      simp only [List.foldl]; rw [dig_nat (by omega)]; omega
theorem dec_inj {a b : Nat} (h : Lib.decDigits a = Lib.decDigits b) : a = b := by rw [← unD_dec a, h, unD_dec]
theorem itoa_by8 {a b : Int} (hb : by8 b) (h : Lib.itoa a = Lib.itoa b) : a = b := by
  obtain ⟨m, rfl⟩ := Int.eq_ofNat_of_zero_le hb.1
  rw [itoa_nat] at h
  unfold Lib.itoa at h
  split at h
  · have := dec_dig m 45 (by rw [← h]; simp)
    exact absurd this (by decide)
  · have := dec_inj h; omega
theorem show_inj {a b c d a' b' c' d' : Int} (ha : by8 a') (hb : by8 b') (hc : by8 c') (hd : by8 d') (h : showA a b c d = showA a' b' c' d') : a = a' ∧ b = b' ∧ c = c' ∧ d = d' := by
  rw [show_chain, show_chain] at h
  obtain ⟨h0, h⟩ := split46 (itoa_no46 a) (itoa_no46 a') h
  obtain ⟨h1, h⟩ := split46 (itoa_no46 b) (itoa_no46 b') h
  obtain ⟨h2, h⟩ := split46 (itoa_no46 c) (itoa_no46 c') h
  exact ⟨itoa_by8 ha h0, itoa_by8 hb h1, itoa_by8 hc h2, itoa_by8 hd h⟩
end Go.Proofs.YtdnjgknnckoagaaDoor
