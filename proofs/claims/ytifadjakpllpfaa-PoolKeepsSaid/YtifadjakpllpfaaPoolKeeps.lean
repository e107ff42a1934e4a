/-
  The law PoolKeeps returns true for every input, and leaves its arguments as they were.
-/
import Derived.Test.YtifadjakpllpfaaKeeps
namespace Go.Proofs.Ytifadjakpllpfaa.poolkeeps
open Go.ChangeShapes Go.WideShapes Go.ChangeAt Go.RowKit Go.Deep
open Go.ChangeMaps (open_string shut_string)
set_option linter.unusedVariables false

theorem open_hopv {H : Type} {enc : TypeId × Value → H} {w : World} {base b0 : Nat} {spare : Nat → Bool} {held : Bool} {r : Reach} {fuel : Nat} {v : Value} {x : DataW H × List MemPlace} (hv : Value.okWide Try.prog w r b0 35 v) (h : DataW.trod enc Try.prog w base spare held fuel 35 v.cells.toList = some x) :
    ∃ (op : Int) (L : Option Addr) (ln lc : Nat) (port backup : Int) (R : Option Addr) (rn rc : Nat) (pipe : Bool) (ll rl : List Int), v = .agg #[.int .i64 op, .slice L ln lc, .int .i64 port, .int .i64 backup, .slice R rn rc, .bool pipe] ∧ Rd int1 1 w L ln ll ∧ Rd int1 1 w R rn rl ∧ ln ≤ maxLen ∧ rn ≤ maxLen := by
  obtain ⟨cs, rfl, hsz⟩ := okWide_struct Try.underlying35 hv
  change DataW.trod enc Try.prog w base spare held fuel 35 cs.toList = some x at h
  obtain ⟨op, L, ln, lc, port, backup, R, rn, rc, pipe, ll, rl, hcs, q⟩ := open_hop h
  refine ⟨op, L, ln, lc, port, backup, R, rn, rc, pipe, ll, rl, ?_, q⟩
  obtain ⟨l⟩ := cs
  simp at hcs
  rw [hcs]

set_option maxRecDepth 100000 in
theorem lifted (os : Os) (started : os.Started) (H : Type) (enc : TypeId × Value → H) :
    ReturnsInHanded {} Try.checked os 4 .any (Rows.poolKeepsSpec.pre6 enc Try.prog Try.f4 Rows.poolKeepsRow.domain false) (Rows.poolKeepsSpec.post enc Try.prog Try.f4 false true false false) := by
  refine returnsInHanded_of_change (C := Try.checked) own started (by kernel_rfl) Try.func4
    (ChangeSpec.witness6 (enc := enc) (C := Try.checked) false ⟨#[], #[.slice none 0 0, .agg #[.int .i64 0, .slice none 0 0, .int .i64 0, .int .i64 0, .slice none 0 0, .bool false], .int .u8 0], []⟩ 8 (by kernel_rfl) (by kernel_rfl) (by kernel_rfl) (by kernel_rfl)) ?_
  intro W base args ds gs before hval0 hW hcnd _
  have hval : ∀ (j : Nat) t v, Try.f4.params[j]? = some t → args[j]? = some v → Value.okWide Try.prog W .any base t v := hval0
  have hW' := hW
  obtain ⟨p, q, hA0, hV, rfl, hfz, hnd⟩ := hW
  have hA : DataW.TrodAll enc Try.prog W 0 (fun _ => true) true Try.f4.params.toList args.toList ds p := hA0
  rw [Try.params4] at hA hval
  obtain ⟨v0, vs0, d0, ds0, p0, q0, hargs, rfl, rfl, h0, r0⟩ := trodAll_cons hA
  obtain ⟨v1, vs1, d1, ds1, p1, q1, rfl, rfl, rfl, h1, r1⟩ := trodAll_cons r0
  obtain ⟨v2, vs2, d2, ds2, p2, q2, rfl, rfl, rfl, h2, r2⟩ := trodAll_cons r1
  obtain ⟨rfl, rfl, rfl⟩ := trodAll_nil r2
  obtain rfl : args = #[v0, v1, v2] := by cases args; simp_all
  obtain ⟨rfl, rfl⟩ := trodVars_none hV
  have k0 := h0
  have lt0 : ∀ x ∈ p0, x.block < W.heap.size := by obtain ⟨m, hm⟩ := k0; exact DataW.trod_lt m _ _ _ hm
  obtain ⟨s0, len0, cap0, rfl⟩ := okWide_slice Try.underlying22 (hval 0 22 v0 rfl rfl)
  obtain ⟨l0, g0⟩ : ∃ l, Rd stp 9 W s0 len0 l ∧ len0 ≤ maxLen ∧ ∀ s ∈ l, StpRd W s := by
    obtain ⟨fuel, hf⟩ := h0
    exact open_script hf
  have k1 := h1
  have lt1 : ∀ x ∈ p1, x.block < W.heap.size := by obtain ⟨m, hm⟩ := k1; exact DataW.trod_lt m _ _ _ hm
  have ok1 := hval 1 35 v1 rfl rfl
  obtain ⟨op, L, ln, lc, port, backup, R, rn, rc, pipe, ll, rl, hcs, rd1, rd4, b1, b4⟩ : ∃ (op : Int) (L : Option Addr) (ln lc : Nat) (port backup : Int) (R : Option Addr) (rn rc : Nat) (pipe : Bool) (ll rl : List Int), v1 = .agg #[.int .i64 op, .slice L ln lc, .int .i64 port, .int .i64 backup, .slice R rn rc, .bool pipe] ∧ Rd int1 1 W L ln ll ∧ Rd int1 1 W R rn rl ∧ ln ≤ maxLen ∧ rn ≤ maxLen := by
    obtain ⟨fuel, hf⟩ := h1
    exact open_hopv ok1 hf
  subst hcs
  obtain ⟨a2, rfl, rfl, rfl, w2⟩ := open_int Try.underlying5 (hval 2 5 v2 rfl rfl) h2
  have g2 : 0 ≤ a2 ∧ a2 ≤ 255 := by simpa [Lit.wf, IntKind.min, IntKind.max, IntKind.signed, IntKind.bits] using w2
  clear hA0 hval0
  refine (keeps_any s0 len0 cap0 l0 op port backup L R ln lc rn rc pipe ll rl a2 W g0 ⟨rd1, rd4⟩ g2).mono fun e W' ⟨he, bel⟩ => ?_
  subst he
  exact ⟨_, rfl, _, _, _, [], _, [], hW', trodAll_mk1 (shut_bool Try.underlying4 _), (trodAll_cons_mk (Below.trod laidOut (by kernel_rfl) (of_decide_eq_true (by kernel_rfl)) k0 bel lt0) (trodAll_cons_mk (Below.trod laidOut (by kernel_rfl) (of_decide_eq_true (by kernel_rfl)) k1 bel lt1) (trodAll_cons_mk (shut_int Try.underlying5 w2) trodAll_mk0))), rfl, bel.frame _, fun h => by cases h⟩

theorem over : Rows.poolKeepsRow.holds Try.pinned (OpenSpec.ofChange Rows.poolKeepsSpec) :=
  OpenClaim.holds_of_wide 4 Try.f4 rfl rfl rfl rfl rfl rfl rfl ⟨rfl, rfl, rfl, rfl, rfl⟩ rfl rfl rfl rfl rfl (by kernel_rfl) Try.func4 (by kernel_rfl)
    (of_decide_eq_true (by kernel_rfl)) (by unfold Func.isWrapper; first | (rw [if_pos (by decide +kernel)]; kernel_rfl) | (rw [if_neg (by decide +kernel)]; exact ⟨rfl, rfl⟩))
    (fun os started H enc _ => lifted os started H enc)

theorem proved : Rows.PoolKeepsSaid := over
#print axioms proved
end Go.Proofs.Ytifadjakpllpfaa.poolkeeps
