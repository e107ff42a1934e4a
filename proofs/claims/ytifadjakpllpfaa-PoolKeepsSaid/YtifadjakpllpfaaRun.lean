/-
  The law's run: a script, of both pools.
-/
import Derived.Test.YtifadjakpllpfaaSt
import Derived.Deep.CutRange
import Derived.Deep.CutBlock
namespace Go.Proofs.Ytifadjakpllpfaa
open Go.RowKit

/-- a step of a script -/
structure Stp where
  kind : Int
  id : Int
  text : ByteArray
  op : Int
  L : Option Addr
  ln : Nat
  lc : Nat
  port : Int
  backup : Int
  R : Option Addr
  rn : Nat
  rc : Nat
  pipe : Bool
def stp (s : Stp) : List Value := [.int .i64 s.kind, .int .i64 s.id, .string s.text, .int .i64 s.op, .slice s.L s.ln s.lc, .int .i64 s.port, .int .i64 s.backup, .slice s.R s.rn s.rc, .bool s.pipe]
theorem stp_len (s : Stp) : (stp s).length = 9 := rfl
/-- its rows can be read -/
def StpRd (w : World) (s : Stp) : Prop := (∃ l, Rd int1 1 w s.L s.ln l) ∧ ∃ l, Rd int1 1 w s.R s.rn l
def StpFew (s : Stp) : Prop := s.ln ≤ 20 ∧ s.rn ≤ 20

theorem Mut.setNew {B : Nat} {w w' : World} (h : Mut B w w') {a : Addr} (ha : w.heap.size ≤ a.block) (u : Value) : Mut B w (w'.setCell a u) :=
  ⟨h.os, h.tape, h.output, by simpa using h.size, fun b hb hs => by rw [heap_setCell_other _ _ _ _ (by omega)]; exact h.keep b hb hs⟩
theorem Mut.box {B : Nat} {w w' : World} (h : Mut B w w') {b : Nat} {cs : Array Value} {t : TypeId} {fr : Nat × Nat} (hb : w.heap[b]? = some (.cells cs t fr)) (h1 : t ≠ 66) (h2 : t ≠ 79) : w'.heap[b]? = some (.cells cs t fr) :=
  (h.keep b (Array.getElem?_eq_some_iff.1 hb).1 (.inr ⟨_, _, _, hb, h1, h2⟩)).trans hb

theorem nine_box {w : World} {h : Nat} {t : TypeId} {a0 a1 a2 a3 a4 a5 a6 a7 a8 : Value} (k : w.heap[h]? = some (.cells #[a0, a1, a2, a3, a4, a5, a6, a7, a8] t (0, 0))) :
    w.cell? ⟨h, 0, none⟩ = some a0 ∧ w.cell? ⟨h, 1, none⟩ = some a1 ∧ w.cell? ⟨h, 2, none⟩ = some a2 ∧ w.cell? ⟨h, 3, none⟩ = some a3 ∧ w.cell? ⟨h, 4, none⟩ = some a4 ∧
      w.cell? ⟨h, 5, none⟩ = some a5 ∧ w.cell? ⟨h, 6, none⟩ = some a6 ∧ w.cell? ⟨h, 7, none⟩ = some a7 ∧ w.cell? ⟨h, 8, none⟩ = some a8 := by
  refine ⟨?_, ?_, ?_, ?_, ?_, ?_, ?_, ?_, ?_⟩ <;> (rw [cell_of_row w h _ _ _ (0, 0) k]; rfl)
/-- a pool's box is written whole -/
theorem setP3 {B : Nat} {w w3 : World} {h : Nat} {x0 x1 x2 : Value} (hh : w3.heap[h]? = some (.cells #[x0, x1, x2] 30 (0, 0))) (hm : Mut B w w3) (hw : w.heap.size ≤ h) (v0 v1 v2 : Value) :
    (((w3.setCell ⟨h, 0, none⟩ v0).setCell ⟨h, 1, none⟩ v1).setCell ⟨h, 2, none⟩ v2).heap[h]? = some (.cells #[v0, v1, v2] 30 (0, 0)) ∧
    (((w3.setCell ⟨h, 0, none⟩ v0).setCell ⟨h, 1, none⟩ v1).setCell ⟨h, 2, none⟩ v2).heap[h + 1]? = w3.heap[h + 1]? ∧
    Ext w3 (((w3.setCell ⟨h, 0, none⟩ v0).setCell ⟨h, 1, none⟩ v1).setCell ⟨h, 2, none⟩ v2) ∧ Mut B w (((w3.setCell ⟨h, 0, none⟩ v0).setCell ⟨h, 1, none⟩ v1).setCell ⟨h, 2, none⟩ v2) := by
  have h1 : (w3.setCell ⟨h, 0, none⟩ v0).heap[h]? = some (.cells #[v0, x1, x2] 30 (0, 0)) := by rw [heap_setCell_same _ _ _ _ _ _ hh]; rfl
  have h2 : ((w3.setCell ⟨h, 0, none⟩ v0).setCell ⟨h, 1, none⟩ v1).heap[h]? = some (.cells #[v0, v1, x2] 30 (0, 0)) := by rw [heap_setCell_same _ _ _ _ _ _ h1]; rfl
  refine ⟨by rw [heap_setCell_same _ _ _ _ _ _ h2]; rfl, ?_, ((Ext.setP hh v0).trans (Ext.setP h1 v1)).trans (Ext.setP h2 v2), ((hm.setNew (a := ⟨h, 0, none⟩) hw v0).setNew (a := ⟨h, 1, none⟩) hw v1).setNew (a := ⟨h, 2, none⟩) hw v2⟩
  rw [heap_setCell_other _ _ _ _ (by simp), heap_setCell_other _ _ _ _ (by simp), heap_setCell_other _ _ _ _ (by simp)]

set_option maxRecDepth 100000 in
set_option maxHeartbeats 4000000 in
theorem run_any {w0 w : World} {B : Nat} {room : Int} {p : Option Addr} {b : Bool} {A : Option Addr} {n c : Nat} {ts : List (Value × Int)} {xs : List XV} (S : St w0 w B room 0 p b A n c ts xs) (SA : Option Addr) (m sc : Nat) (script : List Stp) (hs : Rd stp 9 w0 SA m script) (hm : m ≤ 60)
    (hrd : ∀ s, s ∈ script → StpRd w0 s) (hfew : ∀ s, s ∈ script → StpFew s) (hB : w0.heap.size ≤ B) (hw : Below w0.heap.size w0 w) (hBw : B ≤ w.heap.size) :
    Calls Try.prog 10 #[.pointer p, .agg #[.bool b, .int .i64 room, .slice A n c], .slice SA m sc] w fun e w' =>
      ∃ A' n' c' ts' xs', e = .returned (.tuple #[.agg #[.bool b, .int .i64 room, .slice A' n' c'], .bool true]) ∧ St w0 w' B room m p b A' n' c' ts' xs' ∧ Mut B w w' := by
  have HS := Lib.hid hs
  have hlen := hs.1
  have HRD := Lib.hid hrd
  have HFEW := Lib.hid hfew
  have HW := Lib.hid hw
  have HST := Lib.hid S
  have HBB := Lib.hid (And.intro hB hBw)
  clear hs hrd hfew hw S hB hBw
  go_enter Try.func10, Try.ntmps10
  go_wp2
  go_loopw [8] (fun u W => ∃ (k : Nat) (A : Option Addr) (n c : Nat) (ts : List (Value × Int)) (xs : List XV), k ≤ m ∧ u = .int .i64 k ∧ St w0 W B room k p b A n c ts xs ∧ Mut B w W ∧
    W.heap[w.heap.size]? = some (.cells #[.bool b, .int .i64 room, .slice A n c] 30 (0, 0)) ∧ W.heap[w.heap.size + 1]? = some (.cells #[.bool false, .int .i64 0, .slice none 0 0] 30 (0, 0))) (fun u _ => m - (intOf u).toNat)
  case atStart =>
    exact ⟨0, A, n, c, ts, xs, Nat.zero_le _, rfl, HST.out.ext (Ext.below (by go_grown)), Mut.below (by go_grown), heap_alloc2_old _ _ _, heap_alloc2_new _ _ _⟩
  case round =>
    clear HST
    obtain ⟨k, A, n, c, ts, xs, hk, rfl, hst, hmut, hx1, hx2⟩ := hrel
    obtain ⟨p0, p1, p2, f0, f1, f2⟩ := three_box hx1
    obtain ⟨r0, r1, r2, z0, z1, z2⟩ := three_box hx2
    by_cases hlt : k < m
    · have HB0 := Lib.hid (HW.out.trans ((hmut.lt HBB.out.2).mono HBB.out.1))
      obtain ⟨s, sb, off, hsx, rfl, hcs⟩ := (HS.out.below HB0.out).at_ hlt
      have HSM := Lib.hid (List.mem_of_getElem? hsx)
      obtain ⟨kind, id, text, op, L, ln, lc, port, backup, R, rn, rc, pipe⟩ := s
      have c0 : wr.cell? ⟨sb, off + k * 9, none⟩ = some _ := hcs 0 _ rfl
      have c1 := hcs 1 _ rfl; have c2 := hcs 2 _ rfl; have c3 := hcs 3 _ rfl; have c4 := hcs 4 _ rfl; have c5 := hcs 5 _ rfl; have c6 := hcs 6 _ rfl; have c7 := hcs 7 _ rfl; have c8 := hcs 8 _ rfl
      have hk0 : (0 : Int) ≤ k := by omega
      have hkm : (k : Int) < m := by omega
      clear hcs hsx
      have HST := Lib.hid hst
      have HMUT := Lib.hid hmut
      have HX1 := Lib.hid hx1
      have HX2 := Lib.hid hx2
      clear hst hmut hx1 hx2
      have HFS := Lib.hid (show ln ≤ 20 ∧ rn ≤ 20 from HFEW.out _ HSM.out)
      obtain ⟨⟨ll, hll⟩, ⟨rl, hrl⟩⟩ := HRD.out _ HSM.out
      have HLL := Lib.hid (show Rd int1 1 w0 L ln ll from hll)
      have HRL := Lib.hid (show Rd int1 1 w0 R rn rl from hrl)
      clear hll hrl
      go_upto_block 2 with fail
      have hal : Below wr.heap.size wr (wr.alloc (.cells #[.int .i64 kind, .int .i64 id, .string text, .int .i64 op, .slice L ln lc, .int .i64 port, .int .i64 backup, .slice R rn rc, .bool pipe] 63)) := by go_grown
      have HYS := Lib.hid (heap_alloc_new wr (.cells #[.int .i64 kind, .int .i64 id, .string text, .int .i64 op, .slice L ln lc, .int .i64 port, .int .i64 backup, .slice R rn rc, .bool pipe] 63))
      have HY := Lib.hid ((hal.block _ (Array.getElem?_eq_some_iff.1 HX1.out).1).trans HX1.out)
      have HYR := Lib.hid ((hal.block _ (Array.getElem?_eq_some_iff.1 HX2.out).1).trans HX2.out)
      have HS1 := Lib.hid (HST.out.ext (Ext.below hal))
      have HM := Lib.hid (HMUT.out.trans (Mut.below hal))
      have HB1 := Lib.hid (below_step HB0.out hal)
      clear hal
      go_cut [10, 11, 12, 13, 14, 15] from 16 to 132 (fun x1 x2 x3 x4 x5 x6 wx => ∃ (a er : Int) (o : Bool) (A : Option Addr) (n c : Nat) (ts : List (Value × Int)) (xs : List XV), x1 = .int .i64 a ∧ x2 = .int .i64 a ∧ x3 = .int .i64 er ∧ x4 = .int .i64 er ∧ x5 = .bool o ∧ x6 = .bool o ∧
        St w0 wx B room (k + 1) p b A n c ts xs ∧ Mut B w wx ∧ wx.heap[w.heap.size]? = some (.cells #[.bool b, .int .i64 room, .slice A n c] 30 (0, 0)) ∧ wx.heap[w.heap.size + 1]? = some (.cells #[.bool false, .int .i64 0, .slice none 0 0] 30 (0, 0)))
      case first =>
        by_cases h0 : kind = 0
        · subst h0
          go_wp2_with fail
          refine (HS1.out.addInt (by omega) id).mono ?_
          rintro e w1 ⟨a, er, rfl, hm1, hadds⟩
          have HADD := Lib.hid hadds
          have HM1 := Lib.hid (HM.out.trans hm1)
          have HY1 := Lib.hid (hm1.box HY.out (by decide) (by decide))
          have HY2 := Lib.hid (hm1.box HYR.out (by decide) (by decide))
          obtain ⟨p0, p1, p2, f0, f1, f2⟩ := three_box HY1.out
          obtain ⟨n0, n1, n2, n3, n4, n5, n6, n7, n8⟩ := nine_box (hm1.box HYS.out (by decide) (by decide))
          clear hadds hm1
          go_wp2_with fail
          refine (HADD.out _ (Ext.refl _)).mono ?_
          rintro e w3 ⟨A', n', c', ts', xs', rfl, hst3, hb3⟩
          have HB3 := Lib.hid (HM1.out.trans (Mut.below hb3))
          have HZ1 := Lib.hid ((hb3.block _ (Array.getElem?_eq_some_iff.1 HY1.out).1).trans HY1.out)
          have HZ2 := Lib.hid ((hb3.block _ (Array.getElem?_eq_some_iff.1 HY2.out).1).trans HY2.out)
          have HST3 := Lib.hid hst3
          clear hst3 hb3 p0 p1 p2 f0 f1 f2 n0 n1 n2 n3 n4 n5 n6 n7 n8
          obtain ⟨p0, p1, p2, f0, f1, f2⟩ := three_box HZ1.out
          go_wp2_with fail
          go_meet
          obtain ⟨q1, q2, q3, q4⟩ := setP3 HZ1.out HB3.out (Nat.le_refl _) (.bool b) (.int .i64 room) (.slice A' n' c')
          exact ⟨a, er, false, A', n', c', ts', xs', rfl, rfl, rfl, rfl, rfl, rfl, HST3.out.ext q3, q4, q1, q2.trans HZ2.out⟩
        · have e0 : (kind == 0) = false := by simpa using h0
          by_cases h1 : kind = 1
          · subst h1
            go_wp2_with fail
            refine (HS1.out.addText (by omega) text).mono ?_
            rintro e w1 ⟨a, er, rfl, hm1, hadds⟩
            have HADD := Lib.hid hadds
            have HM1 := Lib.hid (HM.out.trans hm1)
            have HY1 := Lib.hid (hm1.box HY.out (by decide) (by decide))
            have HY2 := Lib.hid (hm1.box HYR.out (by decide) (by decide))
            obtain ⟨p0, p1, p2, f0, f1, f2⟩ := three_box HY1.out
            obtain ⟨n0, n1, n2, n3, n4, n5, n6, n7, n8⟩ := nine_box (hm1.box HYS.out (by decide) (by decide))
            clear hadds hm1
            go_wp2_with fail
            refine (HADD.out _ (Ext.refl _)).mono ?_
            rintro e w3 ⟨A', n', c', ts', xs', rfl, hst3, hb3⟩
            have HB3 := Lib.hid (HM1.out.trans (Mut.below hb3))
            have HZ1 := Lib.hid ((hb3.block _ (Array.getElem?_eq_some_iff.1 HY1.out).1).trans HY1.out)
            have HZ2 := Lib.hid ((hb3.block _ (Array.getElem?_eq_some_iff.1 HY2.out).1).trans HY2.out)
            have HST3 := Lib.hid hst3
            clear hst3 hb3 p0 p1 p2 f0 f1 f2 n0 n1 n2 n3 n4 n5 n6 n7 n8
            obtain ⟨p0, p1, p2, f0, f1, f2⟩ := three_box HZ1.out
            go_wp2_with fail
            go_meet
            obtain ⟨q1, q2, q3, q4⟩ := setP3 HZ1.out HB3.out (Nat.le_refl _) (.bool b) (.int .i64 room) (.slice A' n' c')
            exact ⟨a, er, false, A', n', c', ts', xs', rfl, rfl, rfl, rfl, rfl, rfl, HST3.out.ext q3, q4, q1, q2.trans HZ2.out⟩
          · have e1 : (kind == 1) = false := by simpa using h1
            by_cases h2 : kind = 2
            · subst h2
              go_wp2_with fail
              refine (HS1.out.addHop (by omega) op port backup L R ln lc rn rc pipe ll rl HLL.out HRL.out (HLL.out.below HB1.out) (HRL.out.below HB1.out) HFS.out.1 HFS.out.2).mono ?_
              rintro e w1 ⟨a, er, rfl, hm1, hadds⟩
              have HADD := Lib.hid hadds
              have HM1 := Lib.hid (HM.out.trans hm1)
              have HY1 := Lib.hid (hm1.box HY.out (by decide) (by decide))
              have HY2 := Lib.hid (hm1.box HYR.out (by decide) (by decide))
              obtain ⟨p0, p1, p2, f0, f1, f2⟩ := three_box HY1.out
              obtain ⟨n0, n1, n2, n3, n4, n5, n6, n7, n8⟩ := nine_box (hm1.box HYS.out (by decide) (by decide))
              clear hadds hm1
              go_wp2_with fail
              refine (HADD.out _ (Ext.refl _)).mono ?_
              rintro e w3 ⟨A', n', c', ts', xs', rfl, hst3, hb3⟩
              have HB3 := Lib.hid (HM1.out.trans (Mut.below hb3))
              have HZ1 := Lib.hid ((hb3.block _ (Array.getElem?_eq_some_iff.1 HY1.out).1).trans HY1.out)
              have HZ2 := Lib.hid ((hb3.block _ (Array.getElem?_eq_some_iff.1 HY2.out).1).trans HY2.out)
              have HST3 := Lib.hid hst3
              clear hst3 hb3 p0 p1 p2 f0 f1 f2 n0 n1 n2 n3 n4 n5 n6 n7 n8
              obtain ⟨p0, p1, p2, f0, f1, f2⟩ := three_box HZ1.out
              go_wp2_with fail
              go_meet
              obtain ⟨q1, q2, q3, q4⟩ := setP3 HZ1.out HB3.out (Nat.le_refl _) (.bool b) (.int .i64 room) (.slice A' n' c')
              exact ⟨a, er, false, A', n', c', ts', xs', rfl, rfl, rfl, rfl, rfl, rfl, HST3.out.ext q3, q4, q1, q2.trans HZ2.out⟩
            · have e2 : (kind == 2) = false := by simpa using h2
              by_cases h3 : kind = 3
              · subst h3
                go_wp2_with fail
                refine (HS1.out.ref (by omega) id).mono ?_
                rintro e w1 ⟨er, rfl, hm1, hadds⟩
                have HADD := Lib.hid hadds
                have HM1 := Lib.hid (HM.out.trans hm1)
                have HY1 := Lib.hid (hm1.box HY.out (by decide) (by decide))
                have HY2 := Lib.hid (hm1.box HYR.out (by decide) (by decide))
                obtain ⟨p0, p1, p2, f0, f1, f2⟩ := three_box HY1.out
                obtain ⟨n0, n1, n2, n3, n4, n5, n6, n7, n8⟩ := nine_box (hm1.box HYS.out (by decide) (by decide))
                clear hadds hm1
                go_wp2_with fail
                refine (HADD.out _ (Ext.refl _)).mono ?_
                rintro e w3 ⟨A', n', c', ts', xs', rfl, hst3, hb3⟩
                have HB3 := Lib.hid (HM1.out.trans (Mut.below hb3))
                have HZ1 := Lib.hid ((hb3.block _ (Array.getElem?_eq_some_iff.1 HY1.out).1).trans HY1.out)
                have HZ2 := Lib.hid ((hb3.block _ (Array.getElem?_eq_some_iff.1 HY2.out).1).trans HY2.out)
                have HST3 := Lib.hid hst3
                clear hst3 hb3 p0 p1 p2 f0 f1 f2 n0 n1 n2 n3 n4 n5 n6 n7 n8
                obtain ⟨p0, p1, p2, f0, f1, f2⟩ := three_box HZ1.out
                go_wp2_with fail
                go_meet
                obtain ⟨q1, q2, q3, q4⟩ := setP3 HZ1.out HB3.out (Nat.le_refl _) (.bool b) (.int .i64 room) (.slice A' n' c')
                exact ⟨0, er, false, A', n', c', ts', xs', rfl, rfl, rfl, rfl, rfl, rfl, HST3.out.ext q3, q4, q1, q2.trans HZ2.out⟩
              · have e3 : (kind == 3) = false := by simpa using h3
                by_cases h4 : kind = 4
                · subst h4
                  go_wp2_with fail
                  refine (HS1.out.unref (by omega) id).mono ?_
                  rintro e w1 ⟨o, er, rfl, hm1, hadds⟩
                  have HADD := Lib.hid hadds
                  have HM1 := Lib.hid (HM.out.trans hm1)
                  have HY1 := Lib.hid (hm1.box HY.out (by decide) (by decide))
                  have HY2 := Lib.hid (hm1.box HYR.out (by decide) (by decide))
                  obtain ⟨p0, p1, p2, f0, f1, f2⟩ := three_box HY1.out
                  obtain ⟨n0, n1, n2, n3, n4, n5, n6, n7, n8⟩ := nine_box (hm1.box HYS.out (by decide) (by decide))
                  clear hadds hm1
                  go_wp2_with fail
                  refine (HADD.out _ (Ext.refl _)).mono ?_
                  rintro e w3 ⟨A', n', c', ts', xs', rfl, hst3, hb3⟩
                  have HB3 := Lib.hid (HM1.out.trans (Mut.below hb3))
                  have HZ1 := Lib.hid ((hb3.block _ (Array.getElem?_eq_some_iff.1 HY1.out).1).trans HY1.out)
                  have HZ2 := Lib.hid ((hb3.block _ (Array.getElem?_eq_some_iff.1 HY2.out).1).trans HY2.out)
                  have HST3 := Lib.hid hst3
                  clear hst3 hb3 p0 p1 p2 f0 f1 f2 n0 n1 n2 n3 n4 n5 n6 n7 n8
                  obtain ⟨p0, p1, p2, f0, f1, f2⟩ := three_box HZ1.out
                  go_wp2_with fail
                  go_meet
                  obtain ⟨q1, q2, q3, q4⟩ := setP3 HZ1.out HB3.out (Nat.le_refl _) (.bool b) (.int .i64 room) (.slice A' n' c')
                  exact ⟨0, er, o, A', n', c', ts', xs', rfl, rfl, rfl, rfl, rfl, rfl, HST3.out.ext q3, q4, q1, q2.trans HZ2.out⟩
                · have e4 : (kind == 4) = false := by simpa using h4
                  go_wp2_with fail
                  go_meet
                  exact ⟨0, 0, false, A, n, c, ts, xs, rfl, rfl, rfl, rfl, rfl, rfl, HS1.out.more, HM.out, HY.out, HYR.out⟩
      case rest =>
        obtain ⟨a, er, o, A, n, c, ts, xs, rfl, rfl, rfl, rfl, rfl, rfl, hst, hmut, hx1, hx2⟩ := hcut
        obtain ⟨p0, p1, p2, f0, f1, f2⟩ := three_box hx1
        have g1 : (a != a) = false := by simp
        have g2 : (er != er) = false := by simp
        have g3 : (o != o) = false := by simp
        obtain ⟨q, hq⟩ : ∃ q : Int, q = used ts := ⟨_, rfl⟩
        have g4 : (q != q) = false := by simp
        have HX1 := Lib.hid hx1
        have HX2 := Lib.hid hx2
        have HST := Lib.hid hst
        have HMUT := Lib.hid hmut
        have HLP : Hid (∀ W, Below wc.heap.size wc W → Calls Try.prog 21 #[.pointer p] W fun e W' => e = .returned (.int .i64 q) ∧ (Below wc.heap.size wc W' ∧ W'.cell? ⟨w.heap.size, 0, none⟩ = some (.bool b) ∧ W'.cell? ⟨w.heap.size, 1, none⟩ = some (.int .i64 room) ∧ W'.cell? ⟨w.heap.size, 2, none⟩ = some (.slice A n c))) := fun W hW =>
          ((hst.ext (Ext.below hW)).len).mono fun e W' ⟨he, hw⟩ => by
            subst hw
            obtain ⟨s0, s1, s2, -⟩ := three_box ((hW.block _ (Array.getElem?_eq_some_iff.1 hx1).1).trans hx1)
            exact ⟨by rw [he, hq], hW, s0, s1, s2⟩
        have HLR : Hid (∀ W, Below wc.heap.size wc W → Calls Try.prog 22 #[.agg #[.bool b, .int .i64 room, .slice A n c]] W fun e W' => e = .returned (.int .i64 q) ∧ (Below wc.heap.size wc W' ∧ W'.cell? ⟨w.heap.size, 0, none⟩ = some (.bool b) ∧ W'.cell? ⟨w.heap.size, 1, none⟩ = some (.int .i64 room) ∧ W'.cell? ⟨w.heap.size, 2, none⟩ = some (.slice A n c))) := fun W hW =>
          ((hst.ext (Ext.below hW)).rlen (by omega)).mono fun e W' ⟨he, hb⟩ => by
            have hW' := below_step hW hb
            obtain ⟨s0, s1, s2, -⟩ := three_box ((hW'.block _ (Array.getElem?_eq_some_iff.1 hx1).1).trans hx1)
            exact ⟨by rw [he, hq], hW', s0, s1, s2⟩
        clear hst hmut hx1 hx2 hq
        go_wp2_with fail
        go_region_held3 (fun w' => Below wc.heap.size wc w' ∧ w'.cell? ⟨w.heap.size, 0, none⟩ = some (.bool b) ∧ w'.cell? ⟨w.heap.size, 1, none⟩ = some (.int .i64 room) ∧ w'.cell? ⟨w.heap.size, 2, none⟩ = some (.slice A n c))
          (first | assumption | exact ⟨by assumption, by assumption, by assumption, by assumption⟩ | exact ⟨(Below.refl _ _).drew, by simpa using p0, by simpa using p1, by simpa using p2⟩ | exact ⟨Below.drew (by assumption), by assumption, by assumption, by assumption⟩)
          (first | (go_at_call 21; (with_reducible refine (HLP.out _ ?_).mono ?_); (exact And.left (by assumption)); rintro e w4 ⟨rfl, hb4, hc4, hd4, he4⟩) | (go_at_call 22; (with_reducible refine (HLR.out _ ?_).mono ?_); (exact And.left (by assumption)); rintro e w4 ⟨rfl, hb4, hc4, hd4, he4⟩))
        go_wp2
        go_roundw
        case rel => exact ⟨k + 1, A, n, c, ts, xs, by omega, by go_num, HST.out.ext (Ext.below hb4), HMUT.out.trans (Mut.below hb4), (hb4.block _ (Array.getElem?_eq_some_iff.1 HX1.out).1).trans HX1.out, (hb4.block _ (Array.getElem?_eq_some_iff.1 HX2.out).1).trans HX2.out⟩
        case measure => simp [intOf]; omega
    · have hkm : m = k := by omega
      subst hkm
      obtain ⟨q1, q2, q3, q4⟩ := setP3 hx2 hmut (Nat.le_succ _) (.bool b) (.int .i64 room) (.slice A n c)
      have Q3 := Lib.hid q3
      have Q4 := Lib.hid q4
      have HST := Lib.hid hst
      clear q1 q2 q3 q4 hst hmut hx1 hx2
      go_wp2
      refine bodyPost_ret (by simp [results, Try.results10, go_sem, r0, r1, r2]; try rfl) rfl ?_
      exact ⟨A, n, c, ts, xs, rfl, HST.out.ext Q3.out, Q4.out⟩

end Go.Proofs.Ytifadjakpllpfaa
