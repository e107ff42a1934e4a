/-
  The laws' live example is true.
-/
import Derived.Test.YtepbchgjnhnhjaaRefPick
namespace Go.Proofs.Ytepbchgjnhnhjaa
open Go.RowKit

def l0 : List (Int × Int) := [(5, 2), (6, 6)]
def l1 : List (Int × Int) := [(5, 1), (6, 3)]

/-- a contract from a world on: whatever has been made since -/
def From (w0 : World) (f : Nat) (args : Array Value) (v : Value) : Prop :=
  ∀ W, Below w0.heap.size w0 W → Calls Try.prog f args W fun e W' => e = .returned v ∧ Below w0.heap.size w0 W'

theorem from_ {w0 : World} {f : Nat} {args : Array Value} {v : Value} (h : ∀ W, Below w0.heap.size w0 W → Calls Try.prog f args W fun e W' => e = .returned v ∧ Below W.heap.size W W') : From w0 f args v :=
  fun W hW => (h W hW).mono fun _ _ ⟨he, hb⟩ => ⟨he, hW.trans (hb.mono hW.size)⟩

/-- the same, where the result is a slice of so many -/
def FromWays (w0 : World) (f : Nat) (args : Array Value) (l : List (Int × Int)) : Prop :=
  ∀ W, Below w0.heap.size w0 W → Calls Try.prog f args W fun e W' => ∃ A c, e = .returned (.slice A l.length c) ∧ l.length ≤ c ∧ Ways W' A l.length l ∧ Below W.heap.size W W'

theorem from_ways {w0 : World} {f : Nat} {args : Array Value} {l : List (Int × Int)} (h : ∀ W, Below w0.heap.size w0 W → Calls Try.prog f args W (GivesWays W l)) : FromWays w0 f args l :=
  fun W hW => (h W hW).mono fun _ _ ⟨A, c, he, hc, hw, hb⟩ => ⟨A, c, he, hc, hw, hb⟩

theorem ways_nil (w : World) : Ways w none 0 [] := ⟨rfl, fun i x h => by simp at h⟩

theorem norm_l0 : Grp.norm l0 = l1 := by decide +kernel

set_option maxHeartbeats 2000000 in
theorem awake_any (w : World) : Calls Try.prog 7 #[] w fun e w' => e = .returned (.bool true) ∧ Below w.heap.size w w' := by
  have hw0 : Ways (w.alloc (.cells #[.int .i64 5, .int .i64 2, .int .i64 6, .int .i64 6] 37)) (some ⟨w.heap.size, 0, none⟩) 2 l0 := by
    refine ⟨rfl, fun i x hx => ⟨w.heap.size, 0, rfl, ?_⟩⟩
    match i, hx with
    | 0, hx => simp [l0] at hx; subst hx; simp
    | 1, hx => simp [l0] at hx; subst hx; simp
    | i + 2, hx => simp [l0] at hx
  generalize hW0 : w.alloc (.cells #[.int .i64 5, .int .i64 2, .int .i64 6, .int .i64 6] 37) = w0 at hw0
  have hb0 : Below w.heap.size w w0 := by rw [← hW0]; go_grown
  have hn : Calls Try.prog 19 #[.slice (some ⟨w.heap.size, 0, none⟩) 2 2] w0 fun e W' => ∃ A c, e = .returned (.slice A 2 c) ∧ 2 ≤ c ∧ Ways W' A 2 l1 ∧ Below w0.heap.size w0 W' := by
    refine (norm_any (some ⟨w.heap.size, 0, none⟩) 2 2 l0 w0 hw0 (by omega) (by omega)).mono ?_
    rintro e W' ⟨A, c, he, hc, hw, hb⟩
    rw [norm_l0] at he hc hw
    exact ⟨A, c, he, hc, hw, hb⟩
  have hrest : ∀ W A c, Below w0.heap.size w0 W → 2 ≤ c → Ways W A 2 l1 → (From W 8 #[.slice (some ⟨w.heap.size, 0, none⟩) 2 2] (.int .i64 0) ∧ From W 10 #[.slice A 2 c] (.int .i64 4) ∧
      From W 12 #[.slice A 2 c, .int .u32 0] (.int .i64 0) ∧ From W 12 #[.slice A 2 c, .int .u32 3] (.int .i64 1) ∧ From W 12 #[.slice A 2 c, .int .u32 8] (.int .i64 0) ∧
      From W 14 #[.slice A 2 c, .int .i64 6] (.int .i64 3) ∧ FromWays W 17 #[.slice (some ⟨w.heap.size, 0, none⟩) 2 2, .int .i64 5] [(6, 6)] ∧
      From W 8 #[.slice none 0 0] (.int .i64 1) ∧ From W 12 #[.slice none 0 0, .int .u32 1] (.int .i64 (-1))) := by
    intro W A c hW hc hw
    have hl := hw0.below hW
    refine ⟨from_ fun V hV => ?_, from_ fun V hV => ?_, from_ fun V hV => ?_, from_ fun V hV => ?_, from_ fun V hV => ?_, from_ fun V hV => ?_, from_ways fun V hV => ?_, from_ fun V hV => ?_, from_ fun V hV => ?_⟩
    · have := check_any (some ⟨w.heap.size, 0, none⟩) 2 2 l0 V (hl.below hV) (by omega) (by omega)
      rwa [show Grp.check l0 = 0 by decide +kernel] at this
    · have := total_any A 2 c l1 V (hw.below hV) (by omega)
      rwa [show Grp.total l1 = 4 by decide +kernel] at this
    · have := pick_any A 2 c l1 0 V (hw.below hV) (by omega) hc (by omega)
      rwa [show Grp.pick l1 0 = 0 by decide +kernel] at this
    · have := pick_any A 2 c l1 3 V (hw.below hV) (by omega) hc (by omega)
      rwa [show Grp.pick l1 3 = 1 by decide +kernel] at this
    · have := pick_any A 2 c l1 8 V (hw.below hV) (by omega) hc (by omega)
      rwa [show Grp.pick l1 8 = 0 by decide +kernel] at this
    · have := share_any A 2 c l1 6 V (hw.below hV) (by omega)
      rwa [show Grp.share l1 6 = 3 by decide +kernel] at this
    · have := without_any (some ⟨w.heap.size, 0, none⟩) 2 2 l0 5 V (hl.below hV) (by omega)
      rwa [show Grp.without l0 5 = [(6, 6)] by decide +kernel] at this
    · have := check_any none 0 0 [] V (ways_nil V) (by omega) (by omega)
      rwa [show Grp.check [] = 1 by decide +kernel] at this
    · have := pick_any none 0 0 [] 1 V (ways_nil V) (by omega) (by omega) (by omega)
      rwa [show Grp.pick [] 1 = -1 by decide +kernel] at this
  have HN := Lib.hid hn; have HR := Lib.hid hrest; have HB0 := Lib.hid hb0
  clear hn hrest hw0 hb0
  go_enter Try.func7, Try.ntmps7
  go_wp2_with fail
  refine (HN.out).mono ?_
  rintro e w1 ⟨A, c, rfl, hc, hw, hb1⟩
  obtain ⟨c1, c2, c3, c4, c5, c6, c7, c8, c9⟩ := HR.out w1 A c hb1 hc hw
  have C1 := Lib.hid c1; have C2 := Lib.hid c2; have C3 := Lib.hid c3; have C4 := Lib.hid c4; have C5 := Lib.hid c5
  have C6 := Lib.hid c6; have C7 := Lib.hid c7; have C8 := Lib.hid c8; have C9 := Lib.hid c9
  clear c1 c2 c3 c4 c5 c6 c7 c8 c9 hw
  go_wp2_with fail
  refine (C1.out _ (Below.refl _ _)).mono ?_
  rintro e w2 ⟨rfl, hb2⟩
  go_wp2_with fail
  refine (C2.out _ hb2).mono ?_
  rintro e w3 ⟨rfl, hb3⟩
  go_wp2_with fail
  refine (C3.out _ hb3).mono ?_
  rintro e w4 ⟨rfl, hb4⟩
  go_wp2_with fail
  refine (C4.out _ hb4).mono ?_
  rintro e w5 ⟨rfl, hb5⟩
  go_wp2_with fail
  refine (C5.out _ hb5).mono ?_
  rintro e w6 ⟨rfl, hb6⟩
  go_wp2_with fail
  refine (C6.out _ hb6).mono ?_
  rintro e w7 ⟨rfl, hb7⟩
  go_wp2_with fail
  refine (C7.out _ hb7).mono ?_
  rintro e w8 ⟨A8, c8, rfl, -, -, hb8⟩
  have hb8' : Below w1.heap.size w1 w8 := hb7.trans (hb8.mono hb7.size)
  go_wp2_with fail
  refine (C8.out _ hb8').mono ?_
  rintro e w9 ⟨rfl, hb9⟩
  go_wp2_with fail
  refine (C9.out _ hb9).mono ?_
  rintro e w10 ⟨rfl, hb10⟩
  go_wp2
  go_ret
  exact ⟨rfl, HB0.out.trans ((hb1.trans (hb10.mono hb1.size)).mono HB0.out.size)⟩

end Go.Proofs.Ytepbchgjnhnhjaa
