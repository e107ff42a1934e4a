/-
  spf.from, walked.
-/
import Derived.Test.YtmdcfiejkbhgpaaFrom
import Derived.Test.YtmdcfiejkbhgpaaRDist
import Derived.Carry
namespace Go.Proofs.Ytmdcfiejkbhgpaa
open Go.RowKit Go.Maps

set_option maxRecDepth 100000 in
set_option maxHeartbeats 8000000 in
theorem from_any {w : World} {A : Option Addr} {m c : Nat} {l : List Lk} (hr : Rd lkc 3 w A m l) (hsm : ∀ x ∈ l, Sm x.f) (hm : m ≤ 1000) :
    Calls Try.prog 68 #[.slice A m c] w fun e w' => ∃ bm V, e = .returned (.map (some bm)) ∧ FromAt w' w.heap.size bm m l V ∧ Below w.heap.size w w' := by
  have HR := Lib.hid hr
  have HL := Lib.hid hr.1
  have HSM := Lib.hid hsm
  have HM0 := Lib.hid (fromAt_made w)
  have HB0 := Lib.hid (below_al1 w (.map #[] 0))
  have HT0 := Lib.hid (show l.take 0 = [] from rfl)
  rw [← HT0.out] at HM0
  clear hr hsm
  have hmm := @run_makeMap Try.prog
  go_enter Try.func68, Try.ntmps68
  go_wp2_with fail
  have hbw : w.heap.size ≤ w.heap.size := Nat.le_refl _
  have HBM := Lib.hid (show ∃ bm, bm = w.heap.size from ⟨_, rfl⟩)
  go_loopw [9] (fun v wr => ∃ (k : Nat) (V : Int → Value), k ≤ m ∧ v = .int .i64 k ∧ FromAt wr w.heap.size w.heap.size k (l.take k) V ∧ Below w.heap.size w wr) (fun v _ => m - (intOf v).toNat)
  case atStart => exact ⟨0, _, Nat.zero_le _, rfl, HM0.out, HB0.out⟩
  case round =>
    obtain ⟨k, V, hk, rfl, hfa, hbr⟩ := hrel
    have HFA := Lib.hid hfa
    have HBR := Lib.hid hbr
    clear hfa hbr HM0 HB0 HT0
    have hk0 : (0 : Int) ≤ k := by omega
    by_cases hlt : k < m
    · obtain ⟨⟨xf, xt, xc⟩, b, off, hx, rfl, hcell⟩ := (HR.out.below HBR.out).at_ hlt
      have hk1 : (k : Int) < m := by omega
      have c0 := hcell 0 _ rfl
      have c1 := hcell 1 _ rfl
      have c2 := hcell 2 _ rfl
      rw [Nat.add_zero] at c0
      simp only at c0 c1 c2
      have HTS := Lib.hid (take_snoc hx)
      have hs := HSM.out _ (List.mem_of_getElem? hx)
      simp only at hs
      have HS := Lib.hid hs
      have HBX := Lib.hid (show BoxL (wr.alloc (.cells #[.int .i64 xf, .int .i64 xt, .int .i64 xc] 34)) wr.heap.size xf xt xc from heap_alloc_new _ _)
      have HFA1 := Lib.hid (HFA.out.below (below_al1 wr (.cells #[.int .i64 xf, .int .i64 xt, .int .i64 xc] 34)))
      have HB1 := Lib.hid (HBR.out.trans ((below_al1 wr (.cells #[.int .i64 xf, .int .i64 xt, .int .i64 xc] 34)).mono HBR.out.size))
      have HVB := Lib.hid (show ∀ g, (V xf).ownBlock = some g → g < wr.heap.size from fun g hg => (World.ownsRow.lt (HFA.out.row xf) g hg).2)
      have HLE := Lib.hid (show (grp (l.take k) xf).length ≤ 1000 by
        have h1 := grp_len (l.take k) xf
        have h2 : (l.take k).length ≤ k := by rw [List.length_take]; omega
        omega)
      clear hs hx hcell
      go_wp2_with fail
      go_upto_region 5 with fail
      clear c0 c1 c2
      generalize hA : wr.heap.size = bl at HBX HVB ⊢
      clear hA
      generalize World.alloc _ _ = wa at HBX HFA1 HB1 ⊢
      obtain ⟨q, q0, q1, q2⟩ := HBX.out.cells
      have hqne : bl ≠ wa.heap.size := by omega
      have hlk1 : (Instr.lookup 84 (.map (some w.heap.size)) (.int .i64 xf) false).run Try.prog wa.drew = .ok (V xf) wa.drew := (HFA1.out.below (below_dN 1)).look HS.out
      have HN1 := Lib.hid (one_link wa xf xt xc)
      have HFA2 := Lib.hid ((HFA1.out.below (below_al1 wa (.cells #[.int .i64 xf, .int .i64 xt, .int .i64 xc] 34))).below (below_dN 1))
      have HB2 := Lib.hid (HB1.out.trans (((below_al1 wa (.cells #[.int .i64 xf, .int .i64 xt, .int .i64 xc] 34)).trans ((below_dN 1).mono (by simp))).mono HB1.out.size))
      have hlk2 : (Instr.lookup 84 (.map (some w.heap.size)) (.int .i64 xf) false).run Try.prog (wa.alloc (.cells #[.int .i64 xf, .int .i64 xt, .int .i64 xc] 34)).drew = .ok (V xf) (wa.alloc (.cells #[.int .i64 xf, .int .i64 xt, .int .i64 xc] 34)).drew := HFA2.out.look HS.out
      have HUP := Lib.hid (show ∀ v2 w2, LksAt w2 w.heap.size v2 (grp (l.take k) xf ++ [⟨xf, xt, xc⟩]) → (v2.ownBlock = (V xf).ownBlock ∨ v2.ownBlock = some (wa.alloc (.cells #[.int .i64 xf, .int .i64 xt, .int .i64 xc] 34)).drew.heap.size) → (wa.alloc (.cells #[.int .i64 xf, .int .i64 xt, .int .i64 xc] 34)).drew.grownBy w2 (V xf).ownBlock → ∃ w3, (Instr.mapUpdate 84 (.map (some w.heap.size)) (.int .i64 xf) v2).run Try.prog w2 = .ok () w3 ∧ FromAt w3 w.heap.size w.heap.size (k + 1) (l.take (k + 1)) (setV V xf v2) ∧ Below w.heap.size w w3 ∧ w2.cell? ⟨bl, 0, none⟩ = some (.int .i64 xf) from by
        intro v2 w2 h1 h2 h3
        have hmw := HFA2.out.map.kept h3 (fun e => HFA2.out.off xf e.symm)
        obtain ⟨w3, hrun, hm3, hg3⟩ := hmw.update keyedI Try.underlying84 (val := v2) (keyI HS.out)
        refine ⟨w3, hrun, ?_, ?_, ?_⟩
        · rw [HTS.out]
          exact FromAt.step (x := ⟨xf, xt, xc⟩) HFA2.out h1 h2 h3 hm3 hg3
        · have b2 := HB2.out.grown h3 HB2.out.size (fun k hk => (World.ownsRow.lt (HFA2.out.row xf) k hk).1)
          exact b2.grown hg3 b2.size (fun k hk => by cases hk; exact Nat.le_refl _)
        · have hb1 := (HBX.out.below (below_al1 wa (.cells #[.int .i64 xf, .int .i64 xt, .int .i64 xc] 34)))
          have hb2 : BoxL w2 bl xf xt xc := (h3.block bl (by simp; omega) (fun e => by have := HVB.out bl e.symm; omega)).trans hb1
          exact hb2.cells.2.1)
      have HOWN := Lib.hid (HFA2.out.row xf)
      have HSZ := Lib.hid HB2.out.size
      clear HFA HFA1 HFA2 HB1 HB2
      generalize hV0 : V xf = v0 at hlk1 hlk2 HUP HOWN
      clear hV0
      go_region_law (refine step_link rfl (.tmp 19) (.tmp 21) rfl w.heap.size v0 (grp (l.take k) xf) ⟨xf, xt, xc⟩ (by go_simp) HOWN.out wa.heap.size (by go_simp) HN1.out (Nat.le_trans HLE.out (by decide)) HSZ.out ?_; intro v2 w2 hown2 hloc2 hg2; obtain ⟨w3, hup, hm3, hb3, hq2⟩ := HUP.out v2 w2 hown2 hloc2 hg2)
      all_goals
        have HM3 := Lib.hid hm3
        have HB3 := Lib.hid hb3
        clear hm3 hb3 hup hlk1 hlk2 hq2 q0 q1 q2
        go_wp2
        go_roundw
        case rel => exact ⟨k + 1, _, by omega, by go_num, HM3.out, HB3.out⟩
        case measure => simp [intOf]; omega
    · obtain rfl : k = m := by omega
      go_wp2_with fail
      go_ret
      exact ⟨_, V, rfl, by rw [List.take_of_length_le (Nat.le_of_eq HL.out)] at HFA; exact HFA.out, HBR.out⟩
end Go.Proofs.Ytmdcfiejkbhgpaa
