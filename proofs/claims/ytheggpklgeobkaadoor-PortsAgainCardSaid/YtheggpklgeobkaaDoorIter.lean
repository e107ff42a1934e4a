/-
  The iterator over the interfaces: it has its contract, for every loop body that keeps what lay.
-/
import Derived.Test.YtheggpklgeobkaaDoorChg
import Derived.RangeFuncNested
import Derived.RangeFuncBound
import Derived.RangeFuncCalls
import Derived.RangeFuncLeaves
import Derived.RangeFuncBox
import Derived.Shelf.Abstract
import Derived.WalkKit
import Derived.OwnWalkIn
import Derived.TacticsInMore
import Derived.LoopNIn
import Derived.LoopIn
namespace Go.Proofs.YtheggpklgeobkaaDoor
open Go.RowKit Go.Shelf
attribute [local go_sem] Oper.semAt_some

/-- what a round is handed -/
def encP (e : Pe) : Array Value := #[.agg #[.int .i64 e.num, .int .i64 e.mtu, .bool e.up]]
theorem info_row : (Tryd.prog.info? 44).map (·.size) = some 64 := by kernel_rfl
/-- the row of pointers, read as one, behind a name -/
def ldP (a : Addr) : Sem Value := loadVar 44 a
@[go_sem ↓] theorem loadVar_row64 (a : Addr) : loadVar 44 a = ldP a := rfl
theorem PtsAt.ld {w : World} {p B : Nat} {g : PG} (h : PtsAt w p B g) : (ldP ⟨p, 0, none⟩).run Tryd.prog w = .ok (.agg (rowP g)) w := by
  have h1 := World.rangeAt_of_block h.row 0 64
  have h2 : (rowP g).extract 0 (0 + 64) = rowP g := by
    rw [Nat.zero_add, ← rowP_size g]
    simp
  rw [h2] at h1
  have := run_loadVar_mid (P := Tryd.prog) w p 0 44 (rowP g).toList _ h1 Tryd.underlying44 rfl (by rw [info_row]; simp)
  rw [Array.toArray_toList] at this
  exact this
theorem index_row (g : PG) (k : Nat) (hk : k < 64) (w : World) : (Instr.index 44 (.agg (rowP g)) (.int .i64 (k : Int))).run Tryd.prog w = .ok (ptrP (g k)) w := by
  have ha : (isAgg 43).run Tryd.prog w = .ok false w := by kernel_rfl
  have hs : (sizeOf 43).run Tryd.prog w = .ok 1 w := by kernel_rfl
  have hc := rowP_at g hk
  have h2 : (0 : Int) ≤ k ∧ (k : Int) < ((64 : Nat) : Int) := ⟨by omega, by omega⟩
  have hp : (part 43 (rowP g) ((k : Int).toNat * 1)).run Tryd.prog w = .ok (ptrP (g k)) w := by
    simp [part, Sem.run_bind, ha, hc]
  unfold Instr.index
  simp only [Sem.run_bind, asIntOf, Sem.run_pure, Result.andThen_ok, run_underlying Tryd.underlying44 w, if_pos h2, hs, hp]

set_option maxRecDepth 100000 in
set_option maxHeartbeats 2000000 in
theorem each_in {α : Type} (f : α → Pe) (n : Nat) (hn : 1 ≤ n) (l Bn p B : Nat) (g : PG) (hf : ∀ (k : Nat) x, g k = some x → k < 64 → ∃ y : α, f y = ⟨k, x.2.1, x.2.2⟩) (w0 : World) (hP : PtsAt w0 p B g) (J Jx : List α → World → Prop)
    (hY : ∀ pre x W, J pre W → pre.length < 64 → YieldAt Fence.wide (n - 1) Tryd.prog l (encP (f x)) W fun e W' =>
      (e = .returned (.bool true) ∧ J (pre ++ [x]) W' ∧ Below w0.heap.size W W') ∨ (e = .returned (.bool false) ∧ Jx (pre ++ [x]) W'))
    (W : World) (hBn : W.cell? ⟨Bn, 0, none⟩ = some (.pointer (some ⟨p, 0, none⟩))) (hW : Below w0.heap.size w0 W) (h0 : J [] W) :
    CallsIn Fence.wide n Tryd.prog 32 #[.func (.yield l) #[] #[], .pointer (some ⟨Bn, 0, none⟩)] W fun e W' => (∃ v, e = .returned v) ∧
      ((∃ ys : List α, ys.map f = lst (abs g) ∧ J ys W') ∨ (∃ pre, True ∧ Jx pre W')) := by
  have HF := Lib.hid hf
  clear hf
  have HP := Lib.hid (fun W' (h : Below w0.heap.size w0 W') => hP.below h)
  have hld := (HP.out W hW).ld
  clear hP
  refine callsIn_of_wp Tryd.func32 rfl trivial ?_ rfl
  simp only [Tryd.ntmps32, List.size_toArray, List.length_cons, List.length_nil, Nat.reduceAdd, Nat.reduceSub, Array.replicate_succ, Array.replicate_zero, List.push_toArray, List.append_toArray, List.nil_append, List.cons_append]
  gi_wp2
  clear hld hBn
  gi_loopw [11] (fun i wr => ∃ k : Nat, k ≤ 64 ∧ i = .int .i64 k ∧ Below w0.heap.size w0 wr ∧ ∃ pre : List α, pre.map f = lstT (abs g) k ∧ J pre wr) (fun i _ => 64 - (intOf i).toNat)
  case atStart => exact ⟨0, Nat.zero_le _, rfl, hW, [], rfl, h0⟩
  case round =>
    obtain ⟨k, hk, rfl, hb, pre, hpre, hJ⟩ := hrel
    have HPRE := Lib.hid hpre
    clear hpre
    have HB := Lib.hid hb
    have HJ := Lib.hid hJ
    clear hb hJ
    by_cases hlt : k < 64
    · have hk0 : (0 : Int) ≤ k := by omega
      have hk1 : (k : Int) < 64 := by omega
      cases hx : g k with
      | none =>
        have HT := Lib.hid (lstT_none (S := abs g) (k := k) (by simp [abs, hx]))
        have hix := index_row g k hlt wr
        rw [hx] at hix
        change _ = Result.ok (Value.pointer none) wr at hix
        clear hx
        gi_wp2
        refine ⟨fun _ h => (by cases h), ?_⟩
        gi_wp2
        go_roundw
        case rel => exact ⟨k + 1, by omega, by go_num, HB.out, pre, by rw [HT.out]; exact HPRE.out, HJ.out⟩
        case measure => simp [intOf]; omega
      | some x =>
        have HT := Lib.hid (lstT_some (S := abs g) (k := k) (x := x.2) (by simp [abs, hx]))
        have hix := index_row g k hlt wr
        rw [hx] at hix
        change _ = Result.ok (Value.pointer (some ⟨x.1, 0, none⟩)) wr at hix
        obtain ⟨-, c0, c1, c2, -⟩ := (HP.out _ HB.out).entC hlt hx
        have hlen : pre.length ≤ k := by have := lstT_len (abs g) k; rw [← HPRE.out, List.length_map] at this; exact this
        obtain ⟨y, hy0⟩ := HF.out k x hx hlt
        obtain ⟨fn, tmps, assign, body, hy, hR⟩ := hY pre y wr HJ.out (by omega)
        rw [hy0] at hy
        have HY0 := Lib.hid hy0
        clear hy0 hlen
        unfold encP at hy
        dsimp only at hy
        clear hx
        gi_wp2
        refine hR.mono ?_
        rintro e W3 (⟨rfl, hJ3, hk3⟩ | ⟨rfl, hJx3⟩)
        · have HJ3 := Lib.hid hJ3
          have HB3 := Lib.hid (HB.out.trans hk3)
          clear hJ3 hk3
          gi_wp2
          go_roundw
          case rel => exact ⟨k + 1, by omega, by go_num, HB3.out, pre ++ [y], by rw [HT.out, List.map_append, HPRE.out, List.map_cons, HY0.out]; rfl, HJ3.out⟩
          case measure => simp [intOf]; omega
        · gi_wp2
          refine bodyPost_ret (results_none rfl _ _ _) rfl ?_
          exact ⟨⟨_, rfl⟩, .inr ⟨_, trivial, hJx3⟩⟩
    · obtain rfl : k = 64 := by omega
      gi_wp2
      go_end0
      exact ⟨⟨_, rfl⟩, .inl ⟨_, HPRE.out, HJ.out⟩⟩

set_option maxHeartbeats 1000000 in
theorem each_nil_in {α : Type} (n : Nat) (l Bn : Nat) (J Jx : List α → World → Prop) (W : World) (hBn : W.cell? ⟨Bn, 0, none⟩ = some (.pointer none)) (h0 : J [] W) :
    CallsIn Fence.wide n Tryd.prog 32 #[.func (.yield l) #[] #[], .pointer (some ⟨Bn, 0, none⟩)] W fun e W' => (∃ v, e = .returned v) ∧
      ((∃ ys, ys = [] ∧ J ys W') ∨ (∃ pre, True ∧ Jx pre W')) := by
  refine callsIn_of_wp Tryd.func32 rfl trivial ?_ rfl
  simp only [Tryd.ntmps32, List.size_toArray, List.length_cons, List.length_nil, Nat.reduceAdd, Nat.reduceSub, Array.replicate_succ, Array.replicate_zero, List.push_toArray, List.append_toArray, List.nil_append, List.cons_append]
  gi_wp2
  first
    | (refine bodyPost_ret (results_none rfl _ _ _) rfl ?_; exact ⟨⟨_, rfl⟩, .inl ⟨_, rfl, h0⟩⟩)
    | (go_end0; exact ⟨⟨_, rfl⟩, .inl ⟨_, rfl, h0⟩⟩)

/-- the iterator of interfaces whose row is xs, seen as f shows them; what lay below n₀ is to be kept -/
abbrev Stops {α : Type} (f : α → Pe) (n Bn n₀ : Nat) (xs : List Pe) (w : World) : Prop :=
  SeqStopsK Fence.wide n Tryd.prog 32 #[.pointer (some ⟨Bn, 0, none⟩)] (fun x => encP (f x)) (Below n₀) (fun ys : List α => ys.map f = xs) (fun _ => True) 64 w
theorem each_stops {α : Type} {f : α → Pe} {n : Nat} (hn : 1 ≤ n) {Bn p B : Nat} {g : PG} (hf : ∀ (k : Nat) x, g k = some x → k < 64 → ∃ y : α, f y = ⟨k, x.2.1, x.2.2⟩) {w0 w : World} (hP : PtsAt w0 p B g) (hw : Below w0.heap.size w0 w) (hlt : Bn < w.heap.size) (hc : w.cell? ⟨Bn, 0, none⟩ = some (.pointer (some ⟨p, 0, none⟩))) :
    Stops f n Bn w0.heap.size (lst (abs g)) w := fun l J Jx W hW _ _ hY h0 =>
  each_in f n hn l Bn p B g hf w0 hP J Jx hY W ((hW.cell (p := ⟨Bn, 0, none⟩) hlt).trans hc) (hw.trans (hW.mono hw.size)) h0
theorem each_nil_stops {α : Type} {f : α → Pe} {n : Nat} {Bn n₀ : Nat} {w : World} (hlt : Bn < w.heap.size) (hc : w.cell? ⟨Bn, 0, none⟩ = some (.pointer none)) : Stops f n Bn n₀ [] w := fun l J Jx W hW _ _ _ h0 =>
  (each_nil_in n l Bn J Jx W ((hW.cell (p := ⟨Bn, 0, none⟩) hlt).trans hc) h0).mono fun _ _ ⟨h1, h2⟩ => ⟨h1, h2.elim (fun ⟨ys, e, hJ⟩ => .inl ⟨ys, by rw [e]; rfl, hJ⟩) .inr⟩
end Go.Proofs.YtheggpklgeobkaaDoor
