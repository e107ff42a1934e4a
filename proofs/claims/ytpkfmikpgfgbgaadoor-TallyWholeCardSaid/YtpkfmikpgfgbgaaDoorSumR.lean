/-
  The reference's Sum.
-/
import Derived.Test.YtpkfmikpgfgbgaaDoorSumP
namespace Go.Proofs.YtpkfmikpgfgbgaaDoor
open Go.RowKit

/-- on the way: both tallies' boxes, the result's; all else as it was -/
structure SWay (w wi : World) (Z Y : Nat → Int) : Prop where
  tl : TlAt wi w.heap.size 31 Z
  two : TlAt wi (w.heap.size + 1) 31 Y
  res : TlAt wi (w.heap.size + 1 + 1) 31 zeroZ
  gr : Below w.heap.size w wi
section
variable {w wi : World} {Z Y : Nat → Int}
theorem SWay.start : SWay w (((w.alloc (.cells (cellsZ Z) 31)).alloc (.cells (cellsZ Y) 31)).alloc (.cells (cellsZ zeroZ) 31)) Z Y := by
  refine ⟨?_, ?_, ?_, by go_grown⟩
  · unfold TlAt
    rw [heap_alloc_old _ _ (by simp; omega), heap_alloc_old _ _ (by simp)]
    exact heap_alloc_new _ _
  · unfold TlAt
    rw [heap_alloc_old _ _ (by simp)]
    have := heap_alloc_new (w.alloc (.cells (cellsZ Z) 31)) (.cells (cellsZ Y) 31)
    simpa using this
  · have := heap_alloc_new ((w.alloc (.cells (cellsZ Z) 31)).alloc (.cells (cellsZ Y) 31)) (.cells (cellsZ zeroZ) 31)
    unfold TlAt
    simpa using this
theorem SWay.drew (h : SWay w wi Z Y) : SWay w wi.drew Z Y := ⟨h.tl, h.two, h.res, h.gr.drew⟩
theorem SWay.set (h : SWay w wi Z Y) {i : Nat} (hi : i < 146) (x : Int) : SWay w (wi.setCell ⟨w.heap.size, i, none⟩ (.int .i64 x)) (upd Z i x) Y :=
  ⟨h.tl.set hi x, h.two.other (by omega) _, h.res.other (by omega) _, h.gr.setCell (Nat.le_refl _) _⟩
theorem SWay.put (h : SWay w wi Z Y) (X : Nat → Int) : TlAt (setT wi (w.heap.size + 1 + 1) (cellsZ X)) (w.heap.size + 1 + 1) 31 X ∧ Below w.heap.size w (setT wi (w.heap.size + 1 + 1) (cellsZ X)) :=
  ⟨h.res.putT X, h.gr.grown (setT_grown _ _ _) h.gr.size (fun g e => by cases e; omega)⟩
end
theorem sum_stepR (Z Y : Nat → Int) : ∀ i, i < 146 → addR (addR (upd (addR (addR Z Y 0 4) Y 4 13) 17 (addR (addR Z Y 0 4) Y 4 13 17 + Y 17)) Y 18 64) Y 82 64 i = addZ Z Y i := by
  intro i hi
  by_cases h3 : i = 17
  · subst h3; simp [addR, upd, addZ]
  · simp only [addR, upd, addZ, if_neg h3]
    repeat' split
    all_goals omega
theorem sum_order (Z Y : Nat → Int) (k : Nat) : upd (addR (addR Z Y 18 (k + 1)) Y 82 k) (82 + k) (addR (addR Z Y 18 (k + 1)) Y 82 k (82 + k) + Y (82 + k)) = addR (addR Z Y 18 (k + 1)) Y 82 (k + 1) := by
  rw [addR_succ (addR Z Y 18 (k + 1)) Y 82 k, addR_at]
theorem sum_order1 (Z Y : Nat → Int) (k : Nat) (hk : k < 64) : upd (addR (addR Z Y 18 k) Y 82 k) (18 + k) (addR (addR Z Y 18 k) Y 82 k (18 + k) + Y (18 + k)) = addR (addR Z Y 18 (k + 1)) Y 82 k := by
  funext i
  unfold upd addR
  by_cases h : i = 18 + k
  · subst h
    rw [if_pos rfl, if_neg (by omega), if_neg (by omega), if_neg (by omega), if_pos (by omega)]
  · rw [if_neg h]
    by_cases h2 : 82 ≤ i ∧ i < 82 + k
    · rw [if_pos h2, if_pos h2, if_neg (by omega), if_neg (by omega)]
    · rw [if_neg h2, if_neg h2]
      by_cases h3 : 18 ≤ i ∧ i < 18 + k
      · rw [if_pos h3, if_pos (by omega)]
      · rw [if_neg h3, if_neg (by omega)]

set_option maxRecDepth 100000 in
set_option maxHeartbeats 4000000 in
theorem rsum_any {Z Y : Nat → Int} (hZ : Bd 100000000000 Z) (hY : Bd 100000000000 Y) (w : World) :
    Calls Tryd.prog 13 #[.agg (cellsZ Z), .agg (cellsZ Y)] w fun e w' => e = .returned (.agg (cellsZ (addZ Z Y))) ∧ Below w.heap.size w w' := by
  have HW := Lib.hid (SWay.start (w := w) (Z := Z) (Y := Y))
  have HZ := Lib.hid hZ
  have HY := Lib.hid hY
  clear hZ hY
  go_enter Tryd.func13, Tryd.ntmps13
  go_upto_region 1 with fail
  generalize ((w.alloc _).alloc _).alloc _ = w1 at HW ⊢
  go_wp2
  go_loopw [5] (fun u wr => ∃ k : Nat, k ≤ 4 ∧ u = .int .i64 k ∧ SWay w wr (addR Z Y 0 k) Y) (fun u _ => 4 - (intOf u).toNat)
  case atStart => exact ⟨0, Nat.zero_le _, rfl, by rw [addR_zero]; exact HW.out⟩
  case round =>
    obtain ⟨k, hk, rfl, hw⟩ := hrel
    have HR := Lib.hid hw
    clear hw
    have B1 := Lib.hid (addR_bd HZ.out HY.out 0 k)
    have hk0 : (0 : Int) ≤ k := by omega
    by_cases hlt : k < 4
    · have hkn : (k : Int) < 4 := by omega
      have c1 := HR.out.tl.cell (i := k) (by omega)
      have c2 := HR.out.two.cell (i := k) (by omega)
      have f1 := HR.out.tl.fr k
      have b1 := B1.out k
      have b2 := HY.out k
      have hs := HR.out.set (i := k) (by omega) (addR Z Y 0 k k + Y k)
      have e := addR_succ Z Y 0 k
      rw [show addR Z Y 0 k k = Z k from by have := addR_at Z Y 0 k; rwa [Nat.zero_add] at this] at hs c1 b1
      rw [Nat.zero_add] at e
      rw [← e] at hs
      have HS := Lib.hid hs.drew
      have e1 : IntKind.i64.wrap (Z k + Y k) = Z k + Y k := IntWalk.i64_in _ (by omega)
      clear hs e
      go_wp2_with fail
      go_still_tail 11, (by kernel_rfl)
      go_wp2
      go_roundw
      case rel => exact ⟨k + 1, by omega, by go_num, HS.out⟩
      case measure => simp [intOf]; omega
    · obtain rfl : k = 4 := by omega
      clear hlt hk hk0 HW
      rw [show (((4 : Nat) : Int)) = 4 from rfl]
      go_wp2
      go_loopw [6] (fun u wx => ∃ k : Nat, k ≤ 13 ∧ u = .int .i64 k ∧ SWay w wx (addR (addR Z Y 0 4) Y 4 k) Y) (fun u _ => 13 - (intOf u).toNat)
      case atStart => exact ⟨0, Nat.zero_le _, rfl, by rw [addR_zero]; exact HR.out⟩
      case round =>
        obtain ⟨k, hk, rfl, hw⟩ := hrel
        have HR2 := Lib.hid hw
        clear hw
        have B2 := Lib.hid (addR_bd B1.out HY.out 4 k)
        have hk0 : (0 : Int) ≤ k := by omega
        by_cases hlt : k < 13
        · have hkn : (k : Int) < 13 := by omega
          have c1 := HR2.out.tl.cell (i := 4 + k) (by omega)
          have c2 := HR2.out.two.cell (i := 4 + k) (by omega)
          have f1 := HR2.out.tl.fr (4 + k)
          have b1 := B2.out (4 + k)
          have b2 := HY.out (4 + k)
          have hs := HR2.out.set (i := 4 + k) (by omega) (addR (addR Z Y 0 4) Y 4 k (4 + k) + Y (4 + k))
          rw [addR_at] at hs c1 b1
          rw [← addR_succ] at hs
          have HS := Lib.hid hs.drew
          have e1 : IntKind.i64.wrap (addR Z Y 0 4 (4 + k) + Y (4 + k)) = addR Z Y 0 4 (4 + k) + Y (4 + k) := IntWalk.i64_in _ (by omega)
          clear hs
          go_wp2_with fail
          go_still_tail 11, (by kernel_rfl)
          go_wp2
          go_roundw
          case rel => exact ⟨k + 1, by omega, by go_num, HS.out⟩
          case measure => simp [intOf]; omega
        · obtain rfl : k = 13 := by omega
          clear hlt hk hk0 HR
          rw [show (((13 : Nat) : Int)) = 13 from rfl]
          obtain ⟨wq, rfl⟩ : ∃ wq : World, wq = wr := ⟨_, rfl⟩
          generalize hX : addR (addR Z Y 0 4) Y 4 13 = X at *
          have HX := Lib.hid hX
          clear hX
          have c1 := HR2.out.tl.cell (i := 17) (by omega)
          have c2 := HR2.out.two.cell (i := 17) (by omega)
          have f1 := HR2.out.tl.fr 17
          have b1 := B2.out 17
          have b2 := HY.out 17
          have HS := Lib.hid (HR2.out.set (i := 17) (by omega) (X 17 + Y 17))
          have B3 := Lib.hid (upd_bd B2.out (n := X 17 + Y 17) 17 (M := 100000000000) (by omega) (by omega) (by omega))
          go_upto_region 10 with fail
          clear c1 c2 f1 b1 b2 HR2
          generalize World.setCell _ _ _ = w5 at HS ⊢
          generalize hV : upd X 17 (X 17 + Y 17) = V at *
          have HV := Lib.hid hV
          clear hV
          go_wp2
          go_loopw [7] (fun u wx => ∃ k : Nat, k ≤ 64 ∧ u = .int .i64 k ∧ SWay w wx (addR (addR V Y 18 k) Y 82 k) Y) (fun u _ => 64 - (intOf u).toNat)
          case atStart => exact ⟨0, Nat.zero_le _, rfl, by rw [addR_zero, addR_zero]; exact HS.out⟩
          case round =>
            obtain ⟨k, hk, rfl, hw⟩ := hrel
            have HR3 := Lib.hid hw
            clear hw
            have hk0 : (0 : Int) ≤ k := by omega
            by_cases hlt : k < 64
            · have hkn : (k : Int) < 64 := by omega
              have B4 := Lib.hid (addR_bd (addR_bd B3.out HY.out 18 k) HY.out 82 k)
              have B5 := Lib.hid (addR_bd (addR_bd B3.out HY.out 18 (k + 1)) HY.out 82 k)
              have S1 := Lib.hid (sum_order1 V Y k hlt)
              have S2 := Lib.hid (sum_order V Y k)
              generalize hP : addR (addR V Y 18 k) Y 82 k = P at *
              generalize hQ : addR (addR V Y 18 (k + 1)) Y 82 k = Qz at *
              clear hP hQ
              have c1 := HR3.out.tl.cell (i := 18 + k) (by omega)
              have c2 := HR3.out.two.cell (i := 18 + k) (by omega)
              have f1 := HR3.out.tl.fr (18 + k)
              have b1 := B4.out (18 + k)
              have b2 := HY.out (18 + k)
              have hs := HR3.out.set (i := 18 + k) (by omega) (P (18 + k) + Y (18 + k))
              rw [S1.out] at hs
              have HS1 := Lib.hid hs.drew
              have e1 : IntKind.i64.wrap (P (18 + k) + Y (18 + k)) = P (18 + k) + Y (18 + k) := IntWalk.i64_in _ (by omega)
              clear hs
              go_wp2_with fail
              go_still_tail 11, (by kernel_rfl)
              go_wp2_with fail
              clear c1 c2 f1 b1 b2 e1 HR3
              generalize (World.setCell _ _ _).drew = w6 at HS1 ⊢
              have c1 := HS1.out.tl.cell (i := 82 + k) (by omega)
              have c2 := HS1.out.two.cell (i := 82 + k) (by omega)
              have f1 := HS1.out.tl.fr (82 + k)
              have b1 := B5.out (82 + k)
              have b2 := HY.out (82 + k)
              have hs := HS1.out.set (i := 82 + k) (by omega) (Qz (82 + k) + Y (82 + k))
              rw [S2.out] at hs
              have HS2 := Lib.hid hs.drew
              have e1 : IntKind.i64.wrap (Qz (82 + k) + Y (82 + k)) = Qz (82 + k) + Y (82 + k) := IntWalk.i64_in _ (by omega)
              clear hs
              go_still_tail 11, (by kernel_rfl)
              go_wp2
              go_roundw
              case rel => exact ⟨k + 1, by omega, by go_num, HS2.out⟩
              case measure => simp [intOf]; omega
            · obtain rfl : k = 64 := by omega
              have hfin : cellsZ (addR (addR V Y 18 64) Y 82 64) = cellsZ (addZ Z Y) := by
                rw [← HV.out, ← HX.out]
                exact cellsZ_congr (sum_stepR Z Y)
              have hl := HR3.out.tl.ldT
              rw [hfin] at hl
              have hs := HR3.out.res.stT (addZ Z Y)
              have HP := Lib.hid (HR3.out.put (addZ Z Y))
              clear hfin hlt hk hk0 HR3
              go_wp2
              refine bodyPost_ret (HP.out.1.res Tryd.results13 _ rfl) rfl ?_
              exact ⟨rfl, HP.out.2⟩

end Go.Proofs.YtpkfmikpgfgbgaaDoor
