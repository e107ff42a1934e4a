/-
  The law PoolRuns, walked.
-/
import Derived.Test.YtifadjakpllpfaaObs
namespace Go.Proofs.Ytifadjakpllpfaa
open Go.RowKit

theorem Live.start {w0 w : World} {B g : Nat} {room : Int} {v : Value} (h : PoolAt w B g room v []) : Live w0 w B g room none 0 0 [] [] 0 :=
  ⟨⟨v, h⟩, World.ownsRow_nil _ _ _ _, ⟨rfl, fun i x t hx _ => by simp at hx⟩, Nat.le_refl _, fun t ht => by simp at ht⟩

/-- New, of both -/
theorem start_both (w0 : World) (room : Int) (w : World) : ∃ (p : Option Addr) (b : Bool) (room' : Int),
    (Calls Try.prog 8 #[.int .i64 room] w fun e w1 => e = .returned (.pointer p) ∧ Below w.heap.size w w1 ∧ St w0 w1 w.heap.size room' 0 p b none 0 0 [] []) ∧
    (∀ W, Calls Try.prog 9 #[.int .i64 room] W fun e W' => e = .returned (.agg #[.bool b, .int .i64 room', .slice none 0 0]) ∧ Below W.heap.size W W') ∧ (p.isSome == b) = true := by
  by_cases h : room < 1 ∨ 65536 < room
  · refine ⟨none, false, 0, (new_not room w h).mono fun e w1 ⟨he, hw⟩ => ⟨he, by rw [hw]; exact Below.refl _ _, .dead⟩, fun W => ?_, rfl⟩
    have := rnew_any room W
    rwa [if_pos h] at this
  · refine ⟨some ⟨w.heap.size, 0, none⟩, true, room, (new_any room w (by omega) (by omega)).mono fun e w1 ⟨he, hp, hb⟩ => ⟨he, hb, .live _ _ _ _ _ _ (Live.start hp)⟩, fun W => ?_, rfl⟩
    have := rnew_any room W
    rwa [if_neg h] at this

theorem few_of {l : List Stp} (h : smallB l = true) : l.length ≤ 60 ∧ ∀ s, s ∈ l → StpFew s := by
  simp only [smallB, Bool.and_eq_true, decide_eq_true_eq, List.all_eq_true] at h
  refine ⟨h.2, fun s hs => ?_⟩
  have := h.1 s hs
  simp only [few1, Bool.not_eq_true', Bool.or_eq_false_iff, decide_eq_false_iff_not] at this
  exact ⟨by omega, by omega⟩

set_option maxRecDepth 100000 in
set_option maxHeartbeats 4000000 in
theorem runs_any (room : Int) (SA : Option Addr) (m sc : Nat) (script : List Stp) (A2 : Option Addr) (n2 c2 : Nat) (ids : List Int) (W : World) (hs : Rd stp 9 W SA m script ∧ m ≤ maxLen ∧ ∀ s ∈ script, StpRd W s) (hi : Rd int1 1 W A2 n2 ids ∧ n2 ≤ maxLen) :
    Calls Try.prog 3 #[.int .i64 room, .slice SA m sc, .slice A2 n2 c2] W fun e w' => e = .returned (.bool true) ∧ Below W.heap.size W w' := by
  have HA := Lib.hid (awake_any W)
  have HS := Lib.hid (fun w1 (h : Below W.heap.size W w1) => small_any SA m sc script w1 (hs.1.below h) hs.2.1)
  have HRD := Lib.hid hs
  have HI := Lib.hid hi
  have hlen := hs.1.1
  clear hs hi
  go_enter Try.func3, Try.ntmps3
  go_wp2_with fail
  refine (HA.out).mono ?_
  rintro e w1 ⟨rfl, hb1⟩
  have HB1 := Lib.hid hb1
  clear hb1 HA
  go_wp2_with fail
  refine (HS.out _ HB1.out).mono ?_
  rintro e w2 ⟨rfl, hb2⟩
  have HB2 := Lib.hid (below_step HB1.out hb2)
  clear hb2 HS
  by_cases hsm : smallB script = true
  · obtain ⟨hm, hfew⟩ := few_of hsm
    rw [hlen] at hm
    have HFEW := Lib.hid hfew
    rw [hsm]
    clear hfew hsm
    by_cases hn : 20 < n2
    · have hd : decide ((n2 : Int) > 20) = true := by simp; omega
      go_wp2
      go_ret
      exact ⟨rfl, HB2.out⟩
    · have hd : decide ((n2 : Int) > 20) = false := by simp; omega
      obtain ⟨p, b, room', hN, hR, hpb⟩ := start_both W room w2
      have HN := Lib.hid hN
      have HR := Lib.hid hR
      clear hN hR
      go_wp2_with fail
      refine (HN.out).mono ?_
      rintro e w3 ⟨rfl, hb3, hst⟩
      have HST := Lib.hid hst
      have HB3 := Lib.hid hb3
      clear hst hb3 HN
      go_wp2_with fail
      refine (HR.out _).mono ?_
      rintro e w4 ⟨rfl, hb4⟩
      have HB4 := Lib.hid hb4
      clear hb4 HR
      go_wp2_with fail
      have hBw := HB3.out.size
      have hal : Below w3.heap.size w3 (w4.alloc (.cells #[.bool b, .int .i64 room', .slice none 0 0] 30)) := below_step HB4.out (by go_grown)
      have HRUN := Lib.hid (run_any (HST.out.ext (Ext.below hal)) SA m sc script HRD.out.1 hm HRD.out.2.2 HFEW.out HB2.out.size (below_step (below_step HB2.out HB3.out) hal) (Nat.le_trans hBw hal.size))
      have HX := Lib.hid (heap_alloc_new w4 (.cells #[.bool b, .int .i64 room', .slice none 0 0] 30))
      have HW5 := Lib.hid (below_step (below_step HB2.out HB3.out) hal)
      have hBw5 := Nat.le_trans hBw hal.size
      have hh4 : w2.heap.size ≤ w4.heap.size := Nat.le_trans hBw HB4.out.size
      clear hal
      refine (HRUN.out).mono ?_
      rintro e w5 ⟨A, n, c, ts, xs, rfl, hst, hmut⟩
      have hx5 := hmut.box HX.out (by decide) (by decide)
      have HQ := Lib.hid (setP3 hx5 ((Mut.below (B := w2.heap.size) (show Below w4.heap.size w4 _ by go_grown)).trans hmut) (Nat.le_refl _) (.bool b) (.int .i64 room') (.slice A n c))
      have HS5 := Lib.hid hst
      obtain ⟨u0, u1, u2, f0, f1, f2⟩ := three_box hx5
      clear hst hmut hx5 HRUN HST hpb
      go_wp2
      clear u0 u1 u2 f0 f1 f2
      have hq := HQ.out
      clear HQ
      generalize ((w5.setCell ⟨w4.heap.size, 0, none⟩ (.bool b)).setCell ⟨w4.heap.size, 1, none⟩ (.int .i64 room')).setCell ⟨w4.heap.size, 2, none⟩ (.slice A n c) = w6 at hq ⊢
      obtain ⟨q1, -, q3, q4⟩ := hq
      have HS6 := Lib.hid (HS5.out.ext q3)
      have HW6 := Lib.hid (below_step HB2.out (((below_step HB3.out HB4.out)).trans (q4.lt hh4)))
      have HX6 := Lib.hid q1
      clear q1 q3 q4 HS5 HX HW5
      have hsz : W.heap.size ≤ w6.heap.size := HW6.out.size
      go_loopw [12] (fun u wx => ∃ k : Nat, k ≤ m + 2 ∧ u = .int .i64 ((k : Int) - 1) ∧ Below w6.heap.size w6 wx) (fun u _ => m + 2 - (intOf u + 1).toNat)
      case atStart => exact ⟨0, Nat.zero_le _, rfl, Below.refl _ _⟩
      case round =>
        obtain ⟨k, hk, rfl, hb⟩ := hrel
        have hx := (hb.block _ (Array.getElem?_eq_some_iff.1 HX6.out).1).trans HX6.out
        obtain ⟨p0, p1, p2, -⟩ := three_box hx
        by_cases hlt : k < m + 2
        · have hle : ((k : Int) - 1) ≤ m := by omega
          have HS7 := Lib.hid (fun wy (h : Below wr.heap.size wr wy) => HS6.out.ext ((Ext.below hb).trans (Ext.below h)))
          have HB7 := Lib.hid (fun wy (h : Below wr.heap.size wr wy) => below_step HW6.out (below_step hb h))
          have HBW := Lib.hid hb
          clear hb hx
          generalize hid : (k : Int) - 1 = id at *
          have HGET := Lib.hid (fun wy h => (HS7.out wy h).get (by omega) id)
          have HINT := Lib.hid (fun wy h => (HS7.out wy h).int id)
          have HTEXT := Lib.hid (fun wy h => (HS7.out wy h).text id)
          have HHOP := Lib.hid (fun wy h => (HS7.out wy h).hop id)
          have HUSES := Lib.hid (fun wy h => (HS7.out wy h).usesOf id)
          generalize xget xs id = x at *
          obtain ⟨kind, int, text, op, L, ln, lc, port, backup, R, rn, rc, pipe, uses⟩ := x
          simp only at HINT HTEXT HHOP HUSES
          have HGET2 : Hid (∀ wy, Below wr.heap.size wr wy → Calls Try.prog 11 #[.agg #[.bool b, .int .i64 room', .slice A n c], .int .i64 id] wy fun e w' => e = .returned (.agg #[.int .i64 kind, .int .i64 int, .string text, .int .i64 op, .slice L ln lc, .int .i64 port, .int .i64 backup, .slice R rn rc, .bool pipe, .int .i64 uses]) ∧ Below wy.heap.size wy w') := HGET
          clear HGET
          go_wp2_with fail
          refine (HGET2.out wr (Below.refl _ _)).mono ?_
          rintro e w8 ⟨rfl, hb8⟩
          have hA : Below wr.heap.size wr (w8.alloc (.cells #[.int .i64 kind, .int .i64 int, .string text, .int .i64 op, .slice L ln lc, .int .i64 port, .int .i64 backup, .slice R rn rc, .bool pipe, .int .i64 uses] 37)) := below_step hb8 (by go_grown)
          have HX8 := Lib.hid (heap_alloc_new w8 (.cells #[.int .i64 kind, .int .i64 int, .string text, .int .i64 op, .slice L ln lc, .int .i64 port, .int .i64 backup, .slice R rn rc, .bool pipe, .int .i64 uses] 37))
          have HA8 := Lib.hid hA
          clear hb8 hA HGET2
          go_wp2_with fail
          refine (HINT.out _ HA8.out).mono ?_
          rintro e w9 ⟨rfl, rfl⟩
          go_wp2_with fail
          refine (HTEXT.out _ HA8.out).mono ?_
          rintro e w9 ⟨rfl, rfl⟩
          go_wp2_with fail
          refine (HHOP.out _ HA8.out).mono ?_
          rintro e w9 ⟨L2, lc2, R2, rc2, ll, rl, rfl, r1, r2, r3, r4, b1, b2, hb9⟩
          have hx9 := (hb9.block _ (Array.getElem?_eq_some_iff.1 HX8.out).1).trans HX8.out
          have hal9 : Below w9.heap.size w9 (w9.alloc (.cells #[.int .i64 op, .slice L2 ln lc2, .int .i64 port, .int .i64 backup, .slice R2 rn rc2, .bool pipe] 35)) := by go_grown
          have HXZ := Lib.hid ((hal9.block _ (Array.getElem?_eq_some_iff.1 hx9).1).trans hx9)
          have HHZ := Lib.hid (heap_alloc_new w9 (.cells #[.int .i64 op, .slice L2 ln lc2, .int .i64 port, .int .i64 backup, .slice R2 rn rc2, .bool pipe] 35))
          have HBZ := Lib.hid (below_step (below_step HA8.out hb9) hal9)
          have R1 := Lib.hid r1; have R2' := Lib.hid r2; have R3 := Lib.hid (r3.below hal9); have R4 := Lib.hid (r4.below hal9)
          clear hx9 hal9 hb9 r1 r2 r3 r4
          go_wp2_with fail
          generalize w9.alloc _ = wz at *
          generalize w9.heap.size = gh at *
          generalize w8.heap.size = gx at *
          have HC16 : Hid (∀ w', Below wz.heap.size wz w' → (Below wz.heap.size wz w' ∧ w'.cell? ⟨gx, 0, none⟩ = some (.int .i64 kind) ∧ w'.cell? ⟨gx, 1, none⟩ = some (.int .i64 int) ∧ w'.cell? ⟨gx, 2, none⟩ = some (.string text) ∧ w'.cell? ⟨gx, 3, none⟩ = some (.int .i64 op) ∧ w'.cell? ⟨gx, 4, none⟩ = some (.slice L ln lc) ∧ w'.cell? ⟨gx, 5, none⟩ = some (.int .i64 port) ∧ w'.cell? ⟨gx, 6, none⟩ = some (.int .i64 backup) ∧ w'.cell? ⟨gx, 7, none⟩ = some (.slice R rn rc) ∧ w'.cell? ⟨gx, 8, none⟩ = some (.bool pipe) ∧ w'.cell? ⟨gx, 9, none⟩ = some (.int .i64 uses) ∧ w'.cell? ⟨gh, 0, none⟩ = some (.int .i64 op) ∧ w'.cell? ⟨gh, 1, none⟩ = some (.slice L2 ln lc2) ∧ w'.cell? ⟨gh, 2, none⟩ = some (.int .i64 port) ∧ w'.cell? ⟨gh, 3, none⟩ = some (.int .i64 backup) ∧ w'.cell? ⟨gh, 4, none⟩ = some (.slice R2 rn rc2) ∧ w'.cell? ⟨gh, 5, none⟩ = some (.bool pipe))) := fun w' h => by
            obtain ⟨x0, x1, x2, x3, x4, x5, x6, x7, x8, x9⟩ := ten_box ((h.block _ (Array.getElem?_eq_some_iff.1 HXZ.out).1).trans HXZ.out)
            obtain ⟨y0, y1, y2, y3, y4, y5⟩ := six_box ((h.block _ (Array.getElem?_eq_some_iff.1 HHZ.out).1).trans HHZ.out)
            exact ⟨h, x0, x1, x2, x3, x4, x5, x6, x7, x8, x9, y0, y1, y2, y3, y4, y5⟩
          have HSAME : Hid (∀ wy, Below wz.heap.size wz wy → Calls Try.prog 15 #[.agg #[.int .i64 op, .slice L2 ln lc2, .int .i64 port, .int .i64 backup, .slice R2 rn rc2, .bool pipe], .agg #[.int .i64 op, .slice L ln lc, .int .i64 port, .int .i64 backup, .slice R rn rc, .bool pipe]] wy fun e w' => e = .returned (.bool true) ∧ (Below wz.heap.size wz w' ∧ w'.cell? ⟨gx, 0, none⟩ = some (.int .i64 kind) ∧ w'.cell? ⟨gx, 1, none⟩ = some (.int .i64 int) ∧ w'.cell? ⟨gx, 2, none⟩ = some (.string text) ∧ w'.cell? ⟨gx, 3, none⟩ = some (.int .i64 op) ∧ w'.cell? ⟨gx, 4, none⟩ = some (.slice L ln lc) ∧ w'.cell? ⟨gx, 5, none⟩ = some (.int .i64 port) ∧ w'.cell? ⟨gx, 6, none⟩ = some (.int .i64 backup) ∧ w'.cell? ⟨gx, 7, none⟩ = some (.slice R rn rc) ∧ w'.cell? ⟨gx, 8, none⟩ = some (.bool pipe) ∧ w'.cell? ⟨gx, 9, none⟩ = some (.int .i64 uses) ∧ w'.cell? ⟨gh, 0, none⟩ = some (.int .i64 op) ∧ w'.cell? ⟨gh, 1, none⟩ = some (.slice L2 ln lc2) ∧ w'.cell? ⟨gh, 2, none⟩ = some (.int .i64 port) ∧ w'.cell? ⟨gh, 3, none⟩ = some (.int .i64 backup) ∧ w'.cell? ⟨gh, 4, none⟩ = some (.slice R2 rn rc2) ∧ w'.cell? ⟨gh, 5, none⟩ = some (.bool pipe))) := fun wy h =>
            (same_any op port backup L2 R2 ln lc2 rn rc2 pipe L R lc rc ll rl wy (R3.out.below h) (R4.out.below h) (R1.out.below (HB7.out _ (below_step HBZ.out h))) (R2'.out.below (HB7.out _ (below_step HBZ.out h))) (by omega) (by omega)).mono fun e w' ⟨he, hb⟩ => ⟨he, HC16.out _ (below_step h hb)⟩
          have HUS : Hid (∀ wy, Below wz.heap.size wz wy → Calls Try.prog 16 #[.pointer p, .int .i64 id] wy fun e w' => e = .returned (.int .i64 uses) ∧ (Below wz.heap.size wz w' ∧ w'.cell? ⟨gx, 0, none⟩ = some (.int .i64 kind) ∧ w'.cell? ⟨gx, 1, none⟩ = some (.int .i64 int) ∧ w'.cell? ⟨gx, 2, none⟩ = some (.string text) ∧ w'.cell? ⟨gx, 3, none⟩ = some (.int .i64 op) ∧ w'.cell? ⟨gx, 4, none⟩ = some (.slice L ln lc) ∧ w'.cell? ⟨gx, 5, none⟩ = some (.int .i64 port) ∧ w'.cell? ⟨gx, 6, none⟩ = some (.int .i64 backup) ∧ w'.cell? ⟨gx, 7, none⟩ = some (.slice R rn rc) ∧ w'.cell? ⟨gx, 8, none⟩ = some (.bool pipe) ∧ w'.cell? ⟨gx, 9, none⟩ = some (.int .i64 uses) ∧ w'.cell? ⟨gh, 0, none⟩ = some (.int .i64 op) ∧ w'.cell? ⟨gh, 1, none⟩ = some (.slice L2 ln lc2) ∧ w'.cell? ⟨gh, 2, none⟩ = some (.int .i64 port) ∧ w'.cell? ⟨gh, 3, none⟩ = some (.int .i64 backup) ∧ w'.cell? ⟨gh, 4, none⟩ = some (.slice R2 rn rc2) ∧ w'.cell? ⟨gh, 5, none⟩ = some (.bool pipe))) := fun wy h =>
            (HUSES.out wy (below_step HBZ.out h)).mono fun e w' ⟨he, hw⟩ => ⟨he, by rw [hw]; exact HC16.out _ h⟩
          have hz := HC16.out wz (Below.refl _ _)
          obtain ⟨-, x0, x1, x2, x3, x4, x5, x6, x7, x8, x9, y0, y1, y2, y3, y4, y5⟩ := hz
          have k1 : ((kind == 1) != (kind == 1)) = false := by simp
          have k2 : ((kind == 2) != (kind == 2)) = false := by simp
          have k3 : ((kind == 3) != (kind == 3)) = false := by simp
          have k4 : (int != int) = false := by simp
          have k6 : (uses != uses) = false := by simp
          go_region_held3 (fun w' => Below wz.heap.size wz w' ∧ w'.cell? ⟨gx, 0, none⟩ = some (.int .i64 kind) ∧ w'.cell? ⟨gx, 1, none⟩ = some (.int .i64 int) ∧ w'.cell? ⟨gx, 2, none⟩ = some (.string text) ∧ w'.cell? ⟨gx, 3, none⟩ = some (.int .i64 op) ∧ w'.cell? ⟨gx, 4, none⟩ = some (.slice L ln lc) ∧ w'.cell? ⟨gx, 5, none⟩ = some (.int .i64 port) ∧ w'.cell? ⟨gx, 6, none⟩ = some (.int .i64 backup) ∧ w'.cell? ⟨gx, 7, none⟩ = some (.slice R rn rc) ∧ w'.cell? ⟨gx, 8, none⟩ = some (.bool pipe) ∧ w'.cell? ⟨gx, 9, none⟩ = some (.int .i64 uses) ∧ w'.cell? ⟨gh, 0, none⟩ = some (.int .i64 op) ∧ w'.cell? ⟨gh, 1, none⟩ = some (.slice L2 ln lc2) ∧ w'.cell? ⟨gh, 2, none⟩ = some (.int .i64 port) ∧ w'.cell? ⟨gh, 3, none⟩ = some (.int .i64 backup) ∧ w'.cell? ⟨gh, 4, none⟩ = some (.slice R2 rn rc2) ∧ w'.cell? ⟨gh, 5, none⟩ = some (.bool pipe))
            (first | assumption | exact ⟨by assumption, by assumption, by assumption, by assumption, by assumption, by assumption, by assumption, by assumption, by assumption, by assumption, by assumption, by assumption, by assumption, by assumption, by assumption, by assumption, by assumption⟩ | exact HC16.out _ (Below.refl _ _).drew)
            (first | (go_at_call 15; (with_reducible refine (HSAME.out _ ?_).mono ?_); (exact And.left (by assumption)); rintro e w10 ⟨rfl, hc10⟩; obtain ⟨hbA, z0, z1, z2, z3, z4, z5, z6, z7, z8, z9, v0, v1, v2, v3, v4, v5⟩ := hc10) | (go_at_call 16; (with_reducible refine (HUS.out _ ?_).mono ?_); (exact And.left (by assumption)); rintro e w10 ⟨rfl, hc10⟩; obtain ⟨hbA, z0, z1, z2, z3, z4, z5, z6, z7, z8, z9, v0, v1, v2, v3, v4, v5⟩ := hc10))
          go_wp2
          go_roundw
          case rel => exact ⟨k + 1, by omega, by rw [← hid]; go_num, below_step HBW.out (below_step HBZ.out hbA)⟩
          case measure => simp [intOf]; omega
        · have hkm : k = m + 2 := by omega
          have hle : ¬ ((k : Int) - 1) ≤ m := by omega
          have hst := HS6.out.ext (Ext.below hb)
          have HSUM := Lib.hid (hst.sum A2 n2 c2 ids (HI.out.1.below (below_step HW6.out hb)) (by omega))
          have HRS := Lib.hid (fun wy (h : Below wr.heap.size wr wy) => (hst.ext (Ext.below h)).rsum (by omega) A2 n2 c2 ids (HI.out.1.below (below_step (below_step HW6.out hb) h)) (by omega))
          have HX7 := Lib.hid hx
          have HBW := Lib.hid (below_step HW6.out hb)
          clear hst hb hx
          generalize (sumX (xget xs) 0 ids).getD 0 = sg at *
          generalize (sumX (xget xs) 0 ids).isSome = sb at *
          have k1 : (sg == sg) = true := by simp
          have k2 : (sb == sb) = true := by simp
          go_wp2_with fail
          refine (HSUM.out).mono ?_
          rintro e w7 ⟨rfl, hb7⟩
          clear p0 p1 p2
          obtain ⟨p0, p1, p2, -⟩ := three_box ((hb7.block _ (Array.getElem?_eq_some_iff.1 HX7.out).1).trans HX7.out)
          have HB8 := Lib.hid hb7
          clear hb7
          go_wp2_with fail
          refine (HRS.out _ HB8.out).mono ?_
          rintro e w8 ⟨rfl, hb8⟩
          have HB9 := Lib.hid (below_step (below_step HBW.out HB8.out) hb8)
          clear hb8
          go_wp2
          go_ret
          exact ⟨rfl, HB9.out⟩
  · have hsm' : smallB script = false := by simpa using hsm
    rw [hsm']
    go_wp2
    go_ret
    exact ⟨rfl, HB2.out⟩

end Go.Proofs.Ytifadjakpllpfaa
