/-
  spf.Without, walked.
-/
import Derived.Test.YtmdcfiejkbhgpaaDel
namespace Go.Proofs.Ytmdcfiejkbhgpaa
open Go.RowKit

set_option maxRecDepth 100000 in
set_option maxHeartbeats 4000000 in
theorem wo1_any (x : Lk) (w : World) (B C : Nat) (a b : Int) (hB : B < w.heap.size) (hC : C < w.heap.size) (hc : w.cell? ⟨B, 0, none⟩ = some (.int .i64 a)) (hd : w.cell? ⟨C, 0, none⟩ = some (.int .i64 b)) :
    Calls Try.prog 54 (#[.agg #[.int .i64 x.f, .int .i64 x.t, .int .i64 x.c]] ++ #[.pointer (some ⟨B, 0, none⟩), .pointer (some ⟨C, 0, none⟩)]) w fun e w' => e = .returned (.bool (!keepB a b x)) ∧ Below w.heap.size w w' := by
  obtain ⟨f, t, c⟩ := x
  have hne : B ≠ w.heap.size := by omega
  have hne2 : C ≠ w.heap.size := by omega
  have HV := Lib.hid (show (!keepB a b ⟨f, t, c⟩) = !(!((f == a) && (t == b)) && !((f == b) && (t == a))) from rfl)
  show Calls Try.prog 54 #[.agg #[.int .i64 f, .int .i64 t, .int .i64 c], .pointer (some ⟨B, 0, none⟩), .pointer (some ⟨C, 0, none⟩)] w _
  generalize hp1 : (f == a) = p1 at HV
  generalize hp2 : (t == b) = p2 at HV
  generalize hp3 : (f == b) = p3 at HV
  generalize hp4 : (t == a) = p4 at HV
  cases p1 <;> cases p2 <;> cases p3 <;> cases p4 <;> (
    go_enter Try.func54, Try.ntmps54
    go_wp2
    go_ret
    exact ⟨ret_bool (by rw [HV.out]; rfl), by go_grown⟩)

theorem deleteFunc_nil (g : Nat) (cap : Array Value) (w : World) (eg : ∀ args w, (callFunc g args).run Try.prog w = .ok (.enter g args) w) :
    Calls Try.prog 52 #[.slice none 0 0, .func (.func g) #[] cap] w fun e W' => e = .returned (.slice none 0 0) ∧ Below w.heap.size w W' := by
  have hidx : Calls Try.prog 50 #[.slice none 0 0, .func (.func g) #[] cap] w
      fun e W' => e = .returned (.int .i64 (-1)) ∧ Below w.heap.size w W' := by
    refine (indexFunc none 0 0 [] g cap (fun _ V => Below w.heap.size w V) (fun _ => false) w eg (by omega) (fun i V hb => ⟨rfl, fun i x hx => by simp at hx⟩) (fun i y V hy hb => by simp at hy) (Below.refl _ _)).mono ?_
    rintro e W' ⟨rfl, j, _, hj⟩
    exact ⟨ret_int (firstIdx_none fun i hi => rfl), hj⟩
  have HI := Lib.hid hidx
  clear hidx
  go_enter Try.func52, Try.ntmps52
  go_wp2_with (go_at_call 50; refine (HI.out).mono ?_; rintro e w1 ⟨rfl, hb1⟩)
  go_ret
  exact ⟨rfl, hb1⟩

set_option maxRecDepth 100000 in
set_option maxHeartbeats 4000000 in
theorem without_any {w : World} {A : Option Addr} {m c : Nat} {l : List Lk} (hl : Rd lkc 3 w A m l) (a b : Int) (hm : m ≤ 1000) :
    Calls Try.prog 25 #[.slice A m c, .int .i64 a, .int .i64 b] w fun e w' => ∃ v, e = .returned v ∧ LksAt w' w.heap.size v (withoutG l a b) ∧ Below w.heap.size w w' := by
  have hal : Below w.heap.size w ((w.alloc (.cells #[.int .i64 a] 3)).alloc (.cells #[.int .i64 b] 3)) := by go_grown
  have hsz : ((w.alloc (.cells #[.int .i64 a] 3)).alloc (.cells #[.int .i64 b] 3)).heap.size = w.heap.size + 2 := by simp
  have hca : ((w.alloc (.cells #[.int .i64 a] 3)).alloc (.cells #[.int .i64 b] 3)).cell? ⟨w.heap.size, 0, none⟩ = some (.int .i64 a) := by simp
  have hcb : ((w.alloc (.cells #[.int .i64 a] 3)).alloc (.cells #[.int .i64 b] 3)).cell? ⟨w.heap.size + 1, 0, none⟩ = some (.int .i64 b) := by simp
  have hcl := clone_any A m c l _ (hl.below hal) (by omega)
  rw [hsz] at hcl
  have hfil : (l.filter fun x => !(!keepB a b x)) = withoutG l a b := by
    unfold withoutG
    refine List.filter_congr fun x _ => ?_
    simp
  have hdel : ∀ v W, LksAt W (w.heap.size + 2) v l → Below (w.heap.size + 2) ((w.alloc (.cells #[.int .i64 a] 3)).alloc (.cells #[.int .i64 b] 3)) W →
      Calls Try.prog 52 #[v, .func (.func 54) #[] #[.pointer (some ⟨w.heap.size, 0, none⟩), .pointer (some ⟨w.heap.size + 1, 0, none⟩)]] W fun e w' => ∃ v, e = .returned v ∧ LksAt w' w.heap.size v (withoutG l a b) ∧ Below w.heap.size w w' := by
    intro v W hown hb
    have hbw : Below w.heap.size w W := hal.trans (hb.mono (by omega))
    have hcA : W.cell? ⟨w.heap.size, 0, none⟩ = some (.int .i64 a) := (hb.cell (p := ⟨w.heap.size, 0, none⟩) (by simp)).trans hca
    have hcB : W.cell? ⟨w.heap.size + 1, 0, none⟩ = some (.int .i64 b) := (hb.cell (p := ⟨w.heap.size + 1, 0, none⟩) (by simp)).trans hcb
    have hlt : w.heap.size + 1 < W.heap.size := by have := hb.size; omega
    rcases hown.2 with ⟨rfl, h0⟩ | ⟨g, cap, cur, rfl, hg, hh, hnc, hcm, hcs, htk⟩
    · refine (deleteFunc_nil _ _ W (enters_any Try.func54 (by kernel_rfl) rfl)).mono fun e w' ⟨he, hb'⟩ => ?_
      have hl0 : l = [] := List.eq_nil_of_length_eq_zero h0
      subst hl0
      exact ⟨_, he, lksAt_nil _ _, hbw.trans (hb'.mono hbw.size)⟩
    · refine (deleteFunc g l.length cap (w.heap.size + 2) l 54 #[.pointer (some ⟨w.heap.size, 0, none⟩), .pointer (some ⟨w.heap.size + 1, 0, none⟩)]
        (fun V => w.heap.size + 1 < V.heap.size ∧ V.cell? ⟨w.heap.size, 0, none⟩ = some (.int .i64 a) ∧ V.cell? ⟨w.heap.size + 1, 0, none⟩ = some (.int .i64 b)) (fun x => !keepB a b x) W
        (enters_any Try.func54 (by kernel_rfl) rfl) (by rw [hl.1]; omega) hown (fun V V' hV hgr => ⟨Nat.lt_of_lt_of_le hV.1 hgr.size, hgr.cell hV.2.1 (by simp; omega), hgr.cell hV.2.2 (by simp; omega)⟩) (fun x V hV => wo1_any x V _ _ a b (by omega) hV.1 hV.2.1 hV.2.2) ⟨hlt, hcA, hcB⟩).mono ?_
      rintro e W' ⟨k, rfl, hown', hgr⟩
      rw [hfil] at hown'
      refine ⟨_, rfl, ?_, hbw.trans ⟨hgr.os, hgr.tape, hgr.output, hgr.size, fun k hk => hgr.block k (by omega) (by simp; omega)⟩⟩
      have hk : k = (withoutG l a b).length := by have := hown'.1; rw [flatE_length lkc_len] at this; omega
      subst hk
      exact own_mono hown' (by omega)
  have HC := Lib.hid hcl; have HD := Lib.hid hdel
  clear hcl hdel hl hal hsz hca hcb hfil
  go_enter Try.func25, Try.ntmps25
  go_wp2_with first
    | (go_at_call 53; refine (HC.out).mono ?_; rintro e w1 ⟨v, rfl, hown, hb1⟩; have HOWN := Lib.hid hown; clear hown)
    | (go_at_call 52; refine (HD.out _ _ HOWN.out hb1).mono ?_; rintro e w2 ⟨v2, rfl, hres⟩; have HRES := Lib.hid hres; clear hres)
  go_ret
  exact ⟨v2, rfl, HRES.out⟩
end Go.Proofs.Ytmdcfiejkbhgpaa
