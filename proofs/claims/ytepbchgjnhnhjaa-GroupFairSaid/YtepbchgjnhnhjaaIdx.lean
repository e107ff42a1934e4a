/-
  slices.IndexFunc and slices.ContainsFunc at ways, for whatever function value: one walk of the library's text.
-/
import Derived.Test.YtepbchgjnhnhjaaLib
namespace Go.Proofs.Ytepbchgjnhnhjaa
open Go.RowKit

set_option maxHeartbeats 1000000 in
theorem indexFunc (A : Option Addr) (n c : Nat) (l : List (Int × Int)) (g : Nat) (cap : Array Value) (I : Nat → World → Prop) (p : Nat → Bool) (w : World)
    (eg : ∀ args w, (callFunc g args).run Try.prog w = .ok (.enter g args) w)
    (hn : n ≤ 4611686018427387903) (hI : ∀ i W, I i W → Ways W A n l)
    (hstep : ∀ i x W, l[i]? = some x → I i W → Calls Try.prog g (#[.agg #[.int .i64 x.1, .int .i64 x.2]] ++ cap) W fun e W' => e = .returned (.bool (p i)) ∧ I (i + 1) W')
    (h0 : I 0 w) :
    Calls Try.prog 24 #[.slice A n c, .func (.func g) #[] cap] w fun e W' => e = .returned (.int .i64 (firstIdx p n)) ∧ ∃ j, j ≤ n ∧ I j W' := by
  go_enter Try.func24, Try.ntmps24
  go_wp2
  go_loopw [8] (fun v W => ∃ k : Nat, k ≤ n ∧ v = .int .i64 k ∧ I k W ∧ ∀ j, j < k → p j = false) (fun v _ => n - (intOf v).toNat)
  case atStart => exact ⟨0, Nat.zero_le _, rfl, h0, fun j hj => absurd hj (by omega)⟩
  case round =>
    obtain ⟨k, hk, rfl, hIk, hp⟩ := hrel
    by_cases hlt : k < n
    · obtain ⟨x, b, off, hx, hA, hc0, hc1⟩ := (hI k wr hIk).at_ hlt
      have hs := hstep k x wr hx hIk
      subst hA
      have HI := Lib.hid hI; have HS := Lib.hid hs; have HP := Lib.hid hp; have HT := Lib.hid hstep
      clear hI hs hp hstep
      cases hpk : p k
      · rw [hpk] at HS
        have HK := Lib.hid hpk
        clear hpk
        go_wp2_with (go_at_call 0; fail)
        refine (HS.out).mono ?_
        rintro e w' ⟨rfl, hI'⟩
        go_wp2
        go_roundw
        case rel =>
          refine ⟨k + 1, by omega, by go_num, hI', fun j hj => ?_⟩
          by_cases hjk : j = k
          · rw [hjk]; exact HK.out
          · exact HP.out j (by omega)
        case measure => simp [intOf]; omega
      · rw [hpk] at HS
        have HK := Lib.hid hpk
        clear hpk
        go_wp2_with (go_at_call 0; fail)
        refine (HS.out).mono ?_
        rintro e w' ⟨rfl, hI'⟩
        go_wp2
        go_ret
        exact ⟨by rw [firstIdx_some hlt HK.out HP.out]; rfl, k + 1, by omega, hI'⟩
    · have hkn : n = k := by omega
      subst hkn
      have HI := Lib.hid hI; have HP := Lib.hid hp; have HT := Lib.hid hstep
      clear hI hp hstep
      go_wp2
      go_ret
      exact ⟨by rw [firstIdx_none HP.out]; rfl, n, Nat.le_refl _, hIk⟩

theorem enters_any {f : FuncId} {fn : Func} {c : Code} (h : Try.prog.funcs[f]? = some fn) (hname : (fn.name == "runtime.NumGoroutine") = false) (hb : fn.body = some c) (args : Array Value) (w : World) :
    (callFunc f args).run Try.prog w = .ok (.enter f args) w := by
  have h1 : fn.name ≠ "runtime.NumGoroutine" := by simpa using hname
  simp [callFunc, h, h1, hb, mark]

theorem containsFunc (A : Option Addr) (n c : Nat) (l : List (Int × Int)) (g : Nat) (cap : Array Value) (I : Nat → World → Prop) (p : Nat → Bool) (w : World)
    (eg : ∀ args w, (callFunc g args).run Try.prog w = .ok (.enter g args) w)
    (hn : n ≤ 4611686018427387903) (hI : ∀ i W, I i W → Ways W A n l)
    (hstep : ∀ i x W, l[i]? = some x → I i W → Calls Try.prog g (#[.agg #[.int .i64 x.1, .int .i64 x.2]] ++ cap) W fun e W' => e = .returned (.bool (p i)) ∧ I (i + 1) W')
    (h0 : I 0 w) :
    Calls Try.prog 22 #[.slice A n c, .func (.func g) #[] cap] w fun e W' => e = .returned (.bool ((List.range n).any p)) ∧ ∃ j, j ≤ n ∧ I j W' := by
  have hc := indexFunc A n c l g cap I p w eg hn hI hstep h0
  rw [← firstIdx_ge]
  generalize firstIdx p n = r at hc ⊢
  have HC := Lib.hid hc
  clear hc hI hstep eg
  go_enter Try.func22, Try.ntmps22
  go_wp2_with fail
  refine (HC.out).mono ?_
  rintro e w' ⟨rfl, hI'⟩
  go_wp2
  go_ret
  exact ⟨rfl, hI'⟩

#print axioms containsFunc
end Go.Proofs.Ytepbchgjnhnhjaa
