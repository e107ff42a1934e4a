/-
  Both pools, or none: each step of both.
-/
import Derived.Test.YtifadjakpllpfaaRel
namespace Go.Proofs.Ytifadjakpllpfaa
open Go.RowKit

theorem addInt_nil (n : Int) (w : World) : Calls Try.prog 25 #[.pointer none, .int .i64 n] w fun e w' => e = .returned (.tuple #[.int .i64 0, .int .i64 1]) ∧ w' = w := by
  go_enter Try.func25, Try.ntmps25
  go_wp2_with fail
  refine (add_nil _ _).mono ?_
  rintro e w1 ⟨rfl, rfl⟩
  go_wp2
  go_ret2
  exact ⟨rfl, rfl⟩
theorem addText_nil (s : ByteArray) (w : World) : Calls Try.prog 24 #[.pointer none, .string s] w fun e w' => e = .returned (.tuple #[.int .i64 0, .int .i64 1]) ∧ w' = w := by
  go_enter Try.func24, Try.ntmps24
  go_wp2_with fail
  refine (add_nil _ _).mono ?_
  rintro e w1 ⟨rfl, rfl⟩
  go_wp2
  go_ret2
  exact ⟨rfl, rfl⟩
theorem addHop_nil (op port backup : Int) (L R : Option Addr) (ln lc rn rc : Nat) (pipe : Bool) (ll rl : List Int) (w : World) (hl : Rd int1 1 w L ln ll) (hr : Rd int1 1 w R rn rl) (hln : ln ≤ 1000000) (hrn : rn ≤ 1000000) :
    Calls Try.prog 19 #[.pointer none, .agg #[.int .i64 op, .slice L ln lc, .int .i64 port, .int .i64 backup, .slice R rn rc, .bool pipe]] w fun e w' => e = .returned (.tuple #[.int .i64 0, .int .i64 1]) ∧ Below w.heap.size w w' := by
  have HC := Lib.hid (fun W hW => copied_any op port backup L R ln lc rn rc pipe ll rl W (hl.below hW) (hr.below hW) hln hrn)
  clear hl hr
  go_enter Try.func19, Try.ntmps19
  go_wp2_with fail
  refine (HC.out _ (by go_grown)).mono ?_
  rintro e w1 ⟨vl, vr, rfl, h1, h2, hb⟩
  have HB : Hid (Below w.heap.size w w1) := below_step (by go_grown) hb
  clear h1 h2 hb
  go_wp2_with fail
  refine (add_nil _ _).mono ?_
  rintro e w1 ⟨rfl, rfl⟩
  go_wp2
  go_ret2
  exact ⟨rfl, HB.out⟩

/-- both pools, or none -/
inductive St (w0 w : World) (B : Nat) (room : Int) (k : Nat) : Option Addr → Bool → Option Addr → Nat → Nat → List (Value × Int) → List XV → Prop where
  | live (g : Nat) (A : Option Addr) (n c : Nat) (ts : List (Value × Int)) (xs : List XV) : Live w0 w B g room A n c ts xs k → St w0 w B room k (some ⟨g, 0, none⟩) true A n c ts xs
  | dead : St w0 w B room k none false none 0 0 [] []

section
variable {w0 w w' : World} {B : Nat} {room : Int} {k : Nat} {p : Option Addr} {b : Bool} {A : Option Addr} {n c : Nat} {ts : List (Value × Int)} {xs : List XV}
theorem St.ext (h : St w0 w B room k p b A n c ts xs) (hx : Ext w w') : St w0 w' B room k p b A n c ts xs := by
  cases h with
  | live g _ _ _ _ _ h => exact .live g _ _ _ _ _ (h.ext hx)
  | dead => exact .dead
theorem St.more (h : St w0 w B room k p b A n c ts xs) : St w0 w B room (k + 1) p b A n c ts xs := by
  cases h with
  | live g _ _ _ _ _ h => exact .live g _ _ _ _ _ h.more
  | dead => exact .dead

/-- what is asked of the reference's addition, behind the pool's -/
def Adds (w0 : World) (B : Nat) (room : Int) (k : Nat) (p : Option Addr) (b : Bool) (A : Option Addr) (n c : Nat) (w1 : World) (x : Value) (a er : Int) : Prop :=
  ∀ w2, Ext w1 w2 → Calls Try.prog 26 #[.agg #[.bool b, .int .i64 room, .slice A n c], x] w2 fun e w3 =>
    ∃ A' n' c' ts' xs', e = .returned (.tuple #[.agg #[.bool b, .int .i64 room, .slice A' n' c'], .int .i64 a, .int .i64 er]) ∧ St w0 w3 B room (k + 1) p b A' n' c' ts' xs' ∧ Below w2.heap.size w2 w3

theorem St.addInt (S : St w0 w B room k p b A n c ts xs) (hk : k < 99) (m : Int) :
    Calls Try.prog 25 #[.pointer p, .int .i64 m] w fun e w1 => ∃ a er : Int, e = .returned (.tuple #[.int .i64 a, .int .i64 er]) ∧ Mut B w w1 ∧
      Adds w0 B room k p b A n c w1 (.agg #[.int .i64 1, .int .i64 m, .string ByteArray.empty, .int .i64 0, .slice none 0 0, .int .i64 0, .int .i64 0, .slice none 0 0, .bool false, .int .i64 0]) a er := by
  cases S with
  | live g _ _ _ _ _ S =>
    obtain ⟨v, hp⟩ := S.pool
    refine (addInt_any m hp (by have := S.size; omega) (Nat.le_of_lt S.low)).mono fun e w1 ⟨he, ⟨v', hp1⟩, hm⟩ => ⟨_, _, he, hm, fun w2 hx => ?_⟩
    refine (S.mid hm hp1 hk 1 m ByteArray.empty 0 none 0 0 0 0 none 0 0 false 0 (.num m 1) w2 hx).mono fun e w3 ⟨A', n', c', ts', xs', he, hl, hb⟩ => ⟨A', n', c', ts', xs', he, .live g _ _ _ _ _ hl, hb⟩
  | dead =>
    refine (addInt_nil m w).mono fun e w1 ⟨he, hw⟩ => ⟨0, 1, he, by rw [hw]; exact Mut.refl _ _, fun w2 hx => ?_⟩
    exact (radd_not room none 0 0 1 m ByteArray.empty 0 none 0 0 0 0 none 0 0 false 0 w2).mono fun e w3 ⟨he, hb⟩ => ⟨none, 0, 0, [], [], he, .dead, hb⟩
theorem St.addText (S : St w0 w B room k p b A n c ts xs) (hk : k < 99) (m : ByteArray) :
    Calls Try.prog 24 #[.pointer p, .string m] w fun e w1 => ∃ a er : Int, e = .returned (.tuple #[.int .i64 a, .int .i64 er]) ∧ Mut B w w1 ∧
      Adds w0 B room k p b A n c w1 (.agg #[.int .i64 2, .int .i64 0, .string m, .int .i64 0, .slice none 0 0, .int .i64 0, .int .i64 0, .slice none 0 0, .bool false, .int .i64 0]) a er := by
  cases S with
  | live g _ _ _ _ _ S =>
    obtain ⟨v, hp⟩ := S.pool
    refine (addText_any m hp (by have := S.size; omega) (Nat.le_of_lt S.low)).mono fun e w1 ⟨he, ⟨v', hp1⟩, hm⟩ => ⟨_, _, he, hm, fun w2 hx => ?_⟩
    refine (S.mid hm hp1 hk 2 0 m 0 none 0 0 0 0 none 0 0 false 0 (.text m 1) w2 hx).mono fun e w3 ⟨A', n', c', ts', xs', he, hl, hb⟩ => ⟨A', n', c', ts', xs', he, .live g _ _ _ _ _ hl, hb⟩
  | dead =>
    refine (addText_nil m w).mono fun e w1 ⟨he, hw⟩ => ⟨0, 1, he, by rw [hw]; exact Mut.refl _ _, fun w2 hx => ?_⟩
    exact (radd_not room none 0 0 2 0 m 0 none 0 0 0 0 none 0 0 false 0 w2).mono fun e w3 ⟨he, hb⟩ => ⟨none, 0, 0, [], [], he, .dead, hb⟩
theorem St.addHop (S : St w0 w B room k p b A n c ts xs) (hk : k < 99) (op port backup : Int) (L R : Option Addr) (ln lc rn rc : Nat) (pipe : Bool) (ll rl : List Int) (hl : Rd int1 1 w0 L ln ll) (hr : Rd int1 1 w0 R rn rl) (hl' : Rd int1 1 w L ln ll) (hr' : Rd int1 1 w R rn rl) (hln : ln ≤ 20) (hrn : rn ≤ 20) :
    Calls Try.prog 19 #[.pointer p, .agg #[.int .i64 op, .slice L ln lc, .int .i64 port, .int .i64 backup, .slice R rn rc, .bool pipe]] w fun e w1 => ∃ a er : Int, e = .returned (.tuple #[.int .i64 a, .int .i64 er]) ∧ Mut B w w1 ∧
      Adds w0 B room k p b A n c w1 (.agg #[.int .i64 3, .int .i64 0, .string ByteArray.empty, .int .i64 op, .slice L ln lc, .int .i64 port, .int .i64 backup, .slice R rn rc, .bool pipe, .int .i64 0]) a er := by
  cases S with
  | live g _ _ _ _ _ S =>
    obtain ⟨v, hp⟩ := S.pool
    have hlow := Nat.le_of_lt S.low
    refine (addHop_any op port backup L R ln lc rn rc pipe ll rl hl' hr' (by omega) (by omega) hp (by have := S.size; omega) hlow).mono fun e w1 ⟨he, ⟨v', vl, vr, hp1, h1, h2⟩, hm⟩ => ⟨_, _, he, hm, fun w2 hx => ?_⟩
    obtain ⟨L', lc', rfl, -, -⟩ := Rd.of_own int1_len (by decide) h1
    obtain ⟨R', rc', rfl, -, -⟩ := Rd.of_own int1_len (by decide) h2
    refine (S.mid hm hp1 hk 3 0 ByteArray.empty op L ln lc port backup R rn rc pipe 0 (.hop op L ln lc port backup R rn rc pipe 1 L' lc' R' rc' ll rl hl hr hln hrn (own_mono h1 hlow) (own_mono h2 hlow)) w2 hx).mono fun e w3 ⟨A', n', c', ts', xs', he, hl, hb⟩ => ⟨A', n', c', ts', xs', he, .live g _ _ _ _ _ hl, hb⟩
  | dead =>
    refine (addHop_nil op port backup L R ln lc rn rc pipe ll rl w hl' hr' (by omega) (by omega)).mono fun e w1 ⟨he, hb⟩ => ⟨0, 1, he, Mut.below hb, fun w2 hx => ?_⟩
    exact (radd_not room none 0 0 3 0 ByteArray.empty op L ln lc port backup R rn rc pipe 0 w2).mono fun e w3 ⟨he, hb⟩ => ⟨none, 0, 0, [], [], he, .dead, hb⟩
theorem St.ref (S : St w0 w B room k p b A n c ts xs) (hk : k < 99) (id : Int) :
    Calls Try.prog 20 #[.pointer p, .int .i64 id] w fun e w1 => ∃ er : Int, e = .returned (.int .i64 er) ∧ Mut B w w1 ∧
      ∀ w2, Ext w1 w2 → Calls Try.prog 27 #[.agg #[.bool b, .int .i64 room, .slice A n c], .int .i64 id] w2 fun e w3 =>
        ∃ A' n' c' ts' xs', e = .returned (.tuple #[.agg #[.bool b, .int .i64 room, .slice A' n' c'], .int .i64 er]) ∧ St w0 w3 B room (k + 1) p b A' n' c' ts' xs' ∧ Below w2.heap.size w2 w3 := by
  cases S with
  | live g _ _ _ _ _ S =>
    exact (S.ref hk id).mono fun e w1 ⟨er, he, hm, h⟩ => ⟨er, he, hm, fun w2 hx => (h w2 hx).mono fun e w3 ⟨A', n', c', ts', xs', he, hl, hb⟩ => ⟨A', n', c', ts', xs', he, .live g _ _ _ _ _ hl, hb⟩⟩
  | dead =>
    refine (ref_nil id w).mono fun e w1 ⟨he, hw⟩ => ⟨1, he, by rw [hw]; exact Mut.refl _ _, fun w2 hx => ?_⟩
    exact (rref_not room none 0 0 id w2).mono fun e w3 ⟨he, hb⟩ => ⟨none, 0, 0, [], [], he, .dead, hb⟩
theorem St.unref (S : St w0 w B room k p b A n c ts xs) (hk : k < 99) (id : Int) :
    Calls Try.prog 23 #[.pointer p, .int .i64 id] w fun e w1 => ∃ (o : Bool) (er : Int), e = .returned (.tuple #[.bool o, .int .i64 er]) ∧ Mut B w w1 ∧
      ∀ w2, Ext w1 w2 → Calls Try.prog 28 #[.agg #[.bool b, .int .i64 room, .slice A n c], .int .i64 id] w2 fun e w3 =>
        ∃ A' n' c' ts' xs', e = .returned (.tuple #[.agg #[.bool b, .int .i64 room, .slice A' n' c'], .bool o, .int .i64 er]) ∧ St w0 w3 B room (k + 1) p b A' n' c' ts' xs' ∧ Below w2.heap.size w2 w3 := by
  cases S with
  | live g _ _ _ _ _ S =>
    exact (S.unref hk id).mono fun e w1 ⟨o, er, he, hm, h⟩ => ⟨o, er, he, hm, fun w2 hx => (h w2 hx).mono fun e w3 ⟨A', n', c', ts', xs', he, hl, hb⟩ => ⟨A', n', c', ts', xs', he, .live g _ _ _ _ _ hl, hb⟩⟩
  | dead =>
    refine (unref_nil id w).mono fun e w1 ⟨he, hw⟩ => ⟨false, 1, he, by rw [hw]; exact Mut.refl _ _, fun w2 hx => ?_⟩
    exact (runref_not room none 0 0 id w2).mono fun e w3 ⟨he, hb⟩ => ⟨none, 0, 0, [], [], he, .dead, hb⟩
theorem St.len (S : St w0 w B room k p b A n c ts xs) : Calls Try.prog 21 #[.pointer p] w fun e w1 => e = .returned (.int .i64 (used ts)) ∧ w1 = w := by
  cases S with
  | live g _ _ _ _ _ S =>
    obtain ⟨v, hp⟩ := S.pool
    exact len_any hp
  | dead => exact len_nil w
theorem St.rlen (S : St w0 w B room k p b A n c ts xs) (hk : k ≤ 100) : Calls Try.prog 22 #[.agg #[.bool b, .int .i64 room, .slice A n c]] w fun e w1 => e = .returned (.int .i64 (used ts)) ∧ Below w.heap.size w w1 := by
  cases S with
  | live g _ _ _ _ _ S =>
    have h := rlen_any true room A n c xs w S.rd.1 (by have := S.rd.2; have := S.size; omega)
    rwa [S.rel.usedEq S.bds] at h
  | dead => exact rlen_any false room none 0 0 [] w (Rd.nil _ _) (by omega)
end

end Go.Proofs.Ytifadjakpllpfaa
