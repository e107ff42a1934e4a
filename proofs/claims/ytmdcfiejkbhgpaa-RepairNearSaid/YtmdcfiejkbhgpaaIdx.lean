/-
  slices.IndexFunc and slices.ContainsFunc at links, for whatever function value: one walk of the library's text.
-/
import Derived.Test.YtmdcfiejkbhgpaaREq
namespace Go.Proofs.Ytmdcfiejkbhgpaa
open Go.RowKit

set_option maxHeartbeats 1000000 in
theorem indexFunc (A : Option Addr) (n c : Nat) (l : List Lk) (g : Nat) (cap : Array Value) (I : Nat → World → Prop) (p : Nat → Bool) (w : World)
    (eg : ∀ args w, (callFunc g args).run Try.prog w = .ok (.enter g args) w)
    (hn : n ≤ 4611686018427387903) (hI : ∀ i W, I i W → Rd lkc 3 W A n l)
    (hstep : ∀ i x W, l[i]? = some x → I i W → Calls Try.prog g (#[.agg #[.int .i64 x.f, .int .i64 x.t, .int .i64 x.c]] ++ cap) W fun e W' => e = .returned (.bool (p i)) ∧ I (i + 1) W')
    (h0 : I 0 w) :
    Calls Try.prog 50 #[.slice A n c, .func (.func g) #[] cap] w fun e W' => e = .returned (.int .i64 (firstIdx p n)) ∧ ∃ j, j ≤ n ∧ I j W' := by
  go_enter Try.func50, Try.ntmps50
  go_wp2
  go_loopw [8] (fun v W => ∃ k : Nat, k ≤ n ∧ v = .int .i64 k ∧ I k W ∧ ∀ j, j < k → p j = false) (fun v _ => n - (intOf v).toNat)
  case atStart => exact ⟨0, Nat.zero_le _, rfl, h0, fun j hj => absurd hj (by omega)⟩
  case round =>
    obtain ⟨k, hk, rfl, hIk, hp⟩ := hrel
    by_cases hlt : k < n
    · obtain ⟨⟨xf, xt, xc⟩, b, off, hx, hA, hcell⟩ := (hI k wr hIk).at_ hlt
      have c0 := hcell 0 _ rfl
      have c1 := hcell 1 _ rfl
      have c2 := hcell 2 _ rfl
      rw [Nat.add_zero] at c0
      simp only at c0 c1 c2
      have hs := hstep k _ wr hx hIk
      subst hA
      have HI := Lib.hid hI; have HS := Lib.hid hs; have HP := Lib.hid hp; have HT := Lib.hid hstep
      clear hI hs hp hstep hcell
      cases hpk : p k
      · rw [hpk] at HS
        have HK := Lib.hid hpk
        clear hpk
        go_wp2_with (go_at_call 0; fail)
        refine (HS.out).mono ?_
        rintro e w' ⟨rfl, hI'⟩
        go_wp2
        go_roundw
        case rel =>
          refine ⟨k + 1, by omega, by go_num, hI', fun j hj => ?_⟩
          by_cases hjk : j = k
          · rw [hjk]; exact HK.out
          · exact HP.out j (by omega)
        case measure => simp [intOf]; omega
      · rw [hpk] at HS
        have HK := Lib.hid hpk
        clear hpk
        go_wp2_with (go_at_call 0; fail)
        refine (HS.out).mono ?_
        rintro e w' ⟨rfl, hI'⟩
        go_wp2
        go_ret
        exact ⟨by rw [firstIdx_some hlt HK.out HP.out]; rfl, k + 1, by omega, hI'⟩
    · have hkn : n = k := by omega
      subst hkn
      have HI := Lib.hid hI; have HP := Lib.hid hp; have HT := Lib.hid hstep
      clear hI hp hstep
      go_wp2
      go_ret
      exact ⟨by rw [firstIdx_none HP.out]; rfl, n, Nat.le_refl _, hIk⟩

theorem containsFunc (A : Option Addr) (n c : Nat) (l : List Lk) (g : Nat) (cap : Array Value) (I : Nat → World → Prop) (p : Nat → Bool) (w : World)
    (eg : ∀ args w, (callFunc g args).run Try.prog w = .ok (.enter g args) w)
    (hn : n ≤ 4611686018427387903) (hI : ∀ i W, I i W → Rd lkc 3 W A n l)
    (hstep : ∀ i x W, l[i]? = some x → I i W → Calls Try.prog g (#[.agg #[.int .i64 x.f, .int .i64 x.t, .int .i64 x.c]] ++ cap) W fun e W' => e = .returned (.bool (p i)) ∧ I (i + 1) W')
    (h0 : I 0 w) :
    Calls Try.prog 44 #[.slice A n c, .func (.func g) #[] cap] w fun e W' => e = .returned (.bool ((List.range n).any p)) ∧ ∃ j, j ≤ n ∧ I j W' := by
  have hc := indexFunc A n c l g cap I p w eg hn hI hstep h0
  rw [← firstIdx_ge]
  generalize firstIdx p n = r at hc ⊢
  have HC := Lib.hid hc
  clear hc hI hstep eg
  go_enter Try.func44, Try.ntmps44
  go_wp2_with fail
  refine (HC.out).mono ?_
  rintro e w' ⟨rfl, hI'⟩
  go_wp2
  go_ret
  exact ⟨rfl, hI'⟩

/-! ### at numbers -/


set_option maxHeartbeats 1000000 in
theorem indexFuncI (A : Option Addr) (n c : Nat) (l : List Int) (g : Nat) (cap : Array Value) (I : Nat → World → Prop) (p : Nat → Bool) (w : World)
    (eg : ∀ args w, (callFunc g args).run Try.prog w = .ok (.enter g args) w)
    (hn : n ≤ 4611686018427387903) (hI : ∀ i W, I i W → Rd intc 1 W A n l)
    (hstep : ∀ i x W, l[i]? = some x → I i W → Calls Try.prog g (#[.int .i64 x] ++ cap) W fun e W' => e = .returned (.bool (p i)) ∧ I (i + 1) W')
    (h0 : I 0 w) :
    Calls Try.prog 74 #[.slice A n c, .func (.func g) #[] cap] w fun e W' => e = .returned (.int .i64 (firstIdx p n)) ∧ ∃ j, j ≤ n ∧ I j W' := by
  go_enter Try.func74, Try.ntmps74
  go_wp2
  go_loopw [8] (fun v W => ∃ k : Nat, k ≤ n ∧ v = .int .i64 k ∧ I k W ∧ ∀ j, j < k → p j = false) (fun v _ => n - (intOf v).toNat)
  case atStart => exact ⟨0, Nat.zero_le _, rfl, h0, fun j hj => absurd hj (by omega)⟩
  case round =>
    obtain ⟨k, hk, rfl, hIk, hp⟩ := hrel
    by_cases hlt : k < n
    · obtain ⟨x, b, off, hx, hA, hcell⟩ := (hI k wr hIk).at_ hlt
      have c0 := hcell 0 _ rfl
      rw [Nat.add_zero, Nat.mul_one] at c0
      have hs := hstep k _ wr hx hIk
      subst hA
      have HI := Lib.hid hI; have HS := Lib.hid hs; have HP := Lib.hid hp; have HT := Lib.hid hstep
      clear hI hs hp hstep hcell
      cases hpk : p k
      · rw [hpk] at HS
        have HK := Lib.hid hpk
        clear hpk
        go_wp2_with (go_at_call 0; fail)
        refine (HS.out).mono ?_
        rintro e w' ⟨rfl, hI'⟩
        go_wp2
        go_roundw
        case rel =>
          refine ⟨k + 1, by omega, by go_num, hI', fun j hj => ?_⟩
          by_cases hjk : j = k
          · rw [hjk]; exact HK.out
          · exact HP.out j (by omega)
        case measure => simp [intOf]; omega
      · rw [hpk] at HS
        have HK := Lib.hid hpk
        clear hpk
        go_wp2_with (go_at_call 0; fail)
        refine (HS.out).mono ?_
        rintro e w' ⟨rfl, hI'⟩
        go_wp2
        go_ret
        exact ⟨by rw [firstIdx_some hlt HK.out HP.out]; rfl, k + 1, by omega, hI'⟩
    · have hkn : n = k := by omega
      subst hkn
      have HI := Lib.hid hI; have HP := Lib.hid hp; have HT := Lib.hid hstep
      clear hI hp hstep
      go_wp2
      go_ret
      exact ⟨by rw [firstIdx_none HP.out]; rfl, n, Nat.le_refl _, hIk⟩

theorem containsFuncI (A : Option Addr) (n c : Nat) (l : List Int) (g : Nat) (cap : Array Value) (I : Nat → World → Prop) (p : Nat → Bool) (w : World)
    (eg : ∀ args w, (callFunc g args).run Try.prog w = .ok (.enter g args) w)
    (hn : n ≤ 4611686018427387903) (hI : ∀ i W, I i W → Rd intc 1 W A n l)
    (hstep : ∀ i x W, l[i]? = some x → I i W → Calls Try.prog g (#[.int .i64 x] ++ cap) W fun e W' => e = .returned (.bool (p i)) ∧ I (i + 1) W')
    (h0 : I 0 w) :
    Calls Try.prog 65 #[.slice A n c, .func (.func g) #[] cap] w fun e W' => e = .returned (.bool ((List.range n).any p)) ∧ ∃ j, j ≤ n ∧ I j W' := by
  have hc := indexFuncI A n c l g cap I p w eg hn hI hstep h0
  rw [← firstIdx_ge]
  generalize firstIdx p n = r at hc ⊢
  have HC := Lib.hid hc
  clear hc hI hstep eg
  go_enter Try.func65, Try.ntmps65
  go_wp2_with fail
  refine (HC.out).mono ?_
  rintro e w' ⟨rfl, hI'⟩
  go_wp2
  go_ret
  exact ⟨rfl, hI'⟩

#print axioms containsFuncI
end Go.Proofs.Ytmdcfiejkbhgpaa
