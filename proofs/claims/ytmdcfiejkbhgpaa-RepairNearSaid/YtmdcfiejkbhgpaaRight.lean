/-
  spf.right: a graph that may be, and nodes of it.
-/
import Derived.Test.YtmdcfiejkbhgpaaCheck
namespace Go.Proofs.Ytmdcfiejkbhgpaa
open Go.RowKit

def outV (n : Int) (v : Int) : Bool := decide (v < 0) || decide (n ≤ v)
def rightV (n : Int) (l : List Lk) (ns : List Int) : Bool := chkG n l == 0 && !ns.any (outV n)
theorem rightV_ok {n : Int} {l : List Lk} {ns : List Int} : rightV n l ns = true ↔ GOk n l ∧ ∀ v ∈ ns, 0 ≤ v ∧ v < n := by
  unfold rightV
  rw [← chkG_ok (n := n) (l := l)]
  simp [outV]
theorem rightV_one {n : Int} {l : List Lk} {v : Int} : rightV n l [v] = rightG n l v := by
  rw [Bool.eq_iff_iff, rightV_ok, rightG_ok]
  simp

theorem out_any (x : Int) (w : World) (B : Nat) (n : Int) (_hB : B < w.heap.size) (hc : w.cell? ⟨B, 0, none⟩ = some (.int .i64 n)) :
    Calls Try.prog 66 #[.int .i64 x, .pointer (some ⟨B, 0, none⟩)] w fun e w' => e = .returned (.bool (outV n x)) ∧ Below w.heap.size w w' := by
  go_enter Try.func66, Try.ntmps66
  go_wp2
  all_goals
    go_ret
    refine ⟨?_, by go_grown⟩
    first | (refine ret_bool ?_; unfold outV; rw [Bool.eq_iff_iff]; done) | (refine ret_bool ?_; unfold outV; rw [Bool.eq_iff_iff]; simp only [Bool.or_eq_true, decide_eq_true_eq, true_iff] <;> omega)

set_option maxRecDepth 100000 in
set_option maxHeartbeats 4000000 in
theorem right_any {w : World} {A : Option Addr} {m c : Nat} {l : List Lk} (hr : Rd lkc 3 w A m l) (n : Int) (hm : m ≤ 1000) {E : Option Addr} {k d : Nat} {ns : List Int} (hs : Rd intc 1 w E k ns) (hk : k ≤ 1000) :
    Calls Try.prog 45 #[.int .i64 n, .slice A m c, .slice E k d] w fun e w' => e = .returned (.bool (rightV n l ns)) ∧ Below w.heap.size w w' := by
  have hcf : ∀ W B, Below w.heap.size w W → B < W.heap.size → w.heap.size ≤ B → W.cell? ⟨B, 0, none⟩ = some (.int .i64 n) → Calls Try.prog 65 #[.slice E k d, .func (.func 66) #[] #[.pointer (some ⟨B, 0, none⟩)]] W
      fun e W' => e = .returned (.bool (ns.any (outV n))) ∧ Below w.heap.size w W' := by
    intro W B hW hB hB2 hc
    refine (containsFuncI E k d ns 66 #[.pointer (some ⟨B, 0, none⟩)] (fun _ V => Below W.heap.size W V) (fun i => outV n (ns.getD i 0)) W
      (enters_any Try.func66 (by kernel_rfl) rfl) (by omega) (fun _ V hb => (hs.below hW).below hb) (fun i x V hx hb => ?_) (Below.refl _ _)).mono ?_
    · refine (out_any x V B n (Nat.lt_of_lt_of_le hB hb.size) ((hb.cell (p := ⟨B, 0, none⟩) hB).trans hc)).mono fun e w' ⟨he, hb'⟩ => ⟨?_, hb.trans (hb'.mono hb.size)⟩
      rw [he, getD_of hx]
    · rintro e W' ⟨rfl, j, _, hj⟩
      refine ⟨ret_bool ?_, below_step hW hj⟩
      rw [← hs.1]
      exact range_any ns 0 (outV n)
  have HF := Lib.hid hcf
  have hal : Below w.heap.size w (w.alloc (.cells #[.int .i64 n] 3)) := by go_grown
  have HC := Lib.hid (check_any (c := c) (hr.below hal) n hm)
  have HAL := Lib.hid hal
  have hV : rightV n l ns = (chkG n l == 0 && !ns.any (outV n)) := rfl
  have hcell : (w.alloc (.cells #[.int .i64 n] 3)).cell? ⟨w.heap.size, 0, none⟩ = some (.int .i64 n) := by simp
  have hlt : w.heap.size < (w.alloc (.cells #[.int .i64 n] 3)).heap.size := by simp
  have HLT := Lib.hid hlt
  rw [hV]
  clear hV hs hr hcf hal hlt
  generalize chkG n l = e at *
  generalize ns.any (outV n) = q at *
  by_cases h0 : e = 0
  · subst h0
    go_enter Try.func45, Try.ntmps45
    go_wp2_with (first | (go_at_call 13; refine (HC.out).mono ?_; rintro e w1 ⟨rfl, hb1⟩; have hc1 := (hb1.cell (p := ⟨w.heap.size, 0, none⟩) HLT.out).trans hcell; have HF1 := Lib.hid (HF.out w1 w.heap.size (below_step HAL.out hb1) (Nat.lt_of_lt_of_le HLT.out hb1.size) (Nat.le_refl _) hc1)) | (go_at_call 65; refine (HF1.out).mono ?_; rintro e w2 ⟨rfl, hb2⟩))
    go_ret
    exact ⟨rfl, hb2⟩
  · have d0 : (e == 0) = false := by simpa using h0
    go_enter Try.func45, Try.ntmps45
    go_wp2_with (go_at_call 13; refine (HC.out).mono ?_; rintro e w1 ⟨rfl, hb1⟩)
    go_ret
    rw [d0]
    exact ⟨rfl, below_step HAL.out hb1⟩
end Go.Proofs.Ytmdcfiejkbhgpaa
