/-
  spf.dist, walked.
-/
import Derived.Test.YtmdcfiejkbhgpaaDistA
namespace Go.Proofs.Ytmdcfiejkbhgpaa
open Go.RowKit

/-- the call gives a row of the least costs -/
def RowD (w : World) (n : Int) (l : List Lk) (s : Int) (e : Ending) (w' : World) : Prop :=
  ∃ b, e = .returned (.slice (some ⟨b, 0, none⟩) n.toNat n.toNat) ∧ RowZ w' w.heap.size b n.toNat (D l s) ∧ Below w.heap.size w w'

set_option maxRecDepth 100000 in
set_option maxHeartbeats 8000000 in
theorem dist_any {w : World} {A : Option Addr} {m c : Nat} {n s : Int} {l : List Lk} (hr : Rd lkc 3 w A m l) (hg : GOk n l) (hs : 0 ≤ s ∧ s < n) (hm : m ≤ 1000) :
    Calls Try.prog 46 #[.int .i64 n, .slice A m c, .int .i64 s] w (RowD w n l s) := by
  obtain ⟨N, hN⟩ : ∃ N : Nat, n = N := ⟨n.toNat, by have := hg.n1; omega⟩
  have hN1 : 1 ≤ N := by have := hg.n1; omega
  have hN64 : N ≤ 64 := by have := hg.n64; omega
  have hNt : n.toNat = N := by omega
  have HG := Lib.hid hg
  have HS := Lib.hid hs
  have HNN := Lib.hid hN
  have HLM := Lib.hid hr.1
  have HQ := Lib.hid (show ∀ e w', RowD w n l s e w' ↔ ∃ b, e = .returned (.slice (some ⟨b, 0, none⟩) N N) ∧ RowZ w' w.heap.size b N (D l s) ∧ Below w.heap.size w w' from fun e w' => by unfold RowD; rw [hNt])
  have HREP := Lib.hid (repeat_any (w := w.alloc (.cells #[.int .i64 (-1)] 3)) (b0 := w.heap.size) (by simp) hN1 hN64)
  have HFROM := Lib.hid (show ∀ W, Below w.heap.size w W → _ from fun W hb => from_any (c := c) (hr.below hb) (fun x hx => by have := hg.ok x hx; have := hg.n64; unfold Sm; omega) hm)
  clear hr hg hs hNt hN1
  subst hN
  go_enter Try.func46, Try.ntmps46
  go_wp2_with (first
    | (go_at_call 67; refine (HREP.out).mono ?_; rintro e w1 ⟨bd, rfl, hrow, hb1⟩; have HR1 := Lib.hid hrow; have hb1' := (below_al1 w (.cells #[.int .i64 (-1)] 3)).trans (hb1.mono (by simp)); have HB1 := Lib.hid hb1'; have HFR := Lib.hid (HFROM.out w1 hb1'); have hal := (below_al1 w (.cells #[.int .i64 (-1)] 3)).size; have HAL := Lib.hid hal; clear hrow hb1 hb1' hal)
    | (go_at_call 68; refine (HFR.out).mono ?_; rintro e w2 ⟨bm, V, rfl, hfa, hb2⟩; have HFA := Lib.hid hfa; have HB2 := Lib.hid hb2; clear hfa hb2))
  have HD0 := Lib.hid (show DM w l N bd w1.heap.size w2.heap.size bm m V (w2.heap.size + 1) ((w2.alloc (.cells #[.int .i64 s, .int .i64 0] 88)).alloc (.cells #[.slice (some ⟨w2.heap.size, 0, none⟩) 1 1] 90)) (fun _ => -1) [(s, 0)] from by
    have hb3 : Below w2.heap.size w2 ((w2.alloc (.cells #[.int .i64 s, .int .i64 0] 88)).alloc (.cells #[.slice (some ⟨w2.heap.size, 0, none⟩) 1 1] 90)) := by go_grown
    have hbd : bd < w1.heap.size := (Array.getElem?_eq_some_iff.1 (rowZ_full HR1.out)).1
    exact {
      row := own_below (own_below (own_mono HR1.out HAL.out) HB2.out) hb3
      fr := ⟨HFA.out.below hb3, HFA.out.map.lt, fun u g hg => (World.ownsRow.lt (HFA.out.row u) g hg).2⟩
      wt := wait_start w2 s
      hp := fun i h0 h1 => by simp at h1; omega
      blw := (HB1.out.trans (HB2.out.mono HB1.out.size)).trans (hb3.mono (Nat.le_trans HB1.out.size HB2.out.size))
      ord := ⟨hbd, HB2.out.size, hb3.size, Nat.le_trans HAL.out HR1.out.lo⟩ })
  have HK0 := Lib.hid (show DK N l s (fun _ => -1) [(s, 0)] [] from ⟨dInv_init HS.out, by simp⟩)
  clear HR1 HB1 HB2 HFA HFR HAL HREP HFROM HNN
  generalize w2.heap.size + 1 = p at HD0 ⊢
  generalize World.alloc _ _ = w3 at HD0 ⊢
  generalize w2.heap.size = E at HD0 ⊢
  generalize w1.heap.size = Bf at HD0
  clear w2 w1
  go_loopw [10] (fun v wr => ∃ (Z : Int → Int) (q : Wq), DM w l N bd Bf E bm m V p wr Z q ∧ DK N l s Z q []) (fun _ wr => leftD N bd p wr)
  case atStart => exact ⟨_, _, HD0.out, HK0.out⟩
  case round =>
    obtain ⟨Z, q, hd, hkk⟩ := hrel
    have HD := Lib.hid hd
    have HK := Lib.hid hkk
    have HMS := Lib.hid (leftD_eq (n := N) hd rfl)
    obtain ⟨hEp, g, cap, hne, hc, hf, hbl, hrow, hEg, hgs, hps⟩ := hd.wt.cell
    clear HD0 hd hbl hrow hkk HK0
    cases q with
    | nil =>
      go_wp2_with (first | (go_at_call 69; refine (len_any _ _ _ _).mono ?_; rintro e w' ⟨rfl, hww⟩; obtain rfl := hww.symm; clear hww))
      go_ret
      refine (HQ.out _ _).2 ⟨bd, rfl, HD.out.row.congr fun i hi => ?_, HD.out.blw⟩
      exact HK.out.1.done HG.out (by omega) (by omega)
    | cons e0 q0 =>
      have HPOP := Lib.hid (hpop_any HD.out.wt HD.out.hp (N := q0.length) rfl (by
        have h1 := HK.out.few (by omega)
        simp at h1
        omega) HD.out.ord.2.2.1)
      have hta := reach_is_ok
      have hq0 : (0 : Int) < (q0.length : Int) + 1 := by omega
      go_wp2_with (go_at_call 69; refine (len_any _ _ _ _).mono ?_; rintro e w' ⟨rfl, hww⟩; obtain rfl := hww.symm; clear hww)
      refine (HPOP.out).mono ?_
      rintro e w4 ⟨⟨u, cu⟩, q1, rfl, hw4, hh4, hl4, hm4, hn4, hb4⟩
      have hent := HK.out.1.ent (u, cu) ((hm4 _).2 (.inr rfl))
      simp only at hent
      obtain ⟨k, rfl⟩ : ∃ k : Nat, u = k := ⟨u.toNat, by omega⟩
      have hkN : (k : Int) < N := hent.2.1
      have hcu0 : 0 ≤ cu := hent.2.2.1
      have hcu1 : cu ≤ 1090519040 := hent.2.2.2.1
      have hkN' : k < N := by omega
      have HD4 := Lib.hid (HD.out.turn hb4 hw4 hh4)
      have HD5 := Lib.hid (HD4.out.below (below_al1 w4 (.cells #[.int .i64 (k : Int), .int .i64 cu] 88)))
      have hout := HD5.out.row.cell hkN'
      have hofr := HD5.out.row.fr k
      have HBX := Lib.hid (show BoxR (w4.alloc (.cells #[.int .i64 (k : Int), .int .i64 cu] 88)) w4.heap.size k cu from heap_alloc_new _ _)
      have hbne : bd ≠ w4.heap.size := by
        have h1 := HD4.out.ord
        omega
      have HM4 := Lib.hid (And.intro hm4 hn4)
      have HL4 := Lib.hid hl4
      have HOFF := Lib.hid (show OffW ((w4.alloc (.cells #[.int .i64 (k : Int), .int .i64 cu] 88)).setCell ⟨bd, k, none⟩ (.int .i64 cu)) p w4.heap.size from HD4.out.off k cu)
      clear hw4 hh4 hl4 hm4 hn4 hb4 hent HPOP HD4 HD hc hf hgs hps
      by_cases hz : Z (k : Int) = -1
      · have hz1 : (Z (k : Int) == -1) = true := by rw [hz]; rfl
        have HTK := Lib.hid (HK.out.1.take HG.out HM4.out.1 HM4.out.2 hz)
        have HCN := Lib.hid (cntZ_new (Z := Z) (v := k) (x := cu) hcu0 (by omega) (nodes_sorted N) (mem_nodes.2 ⟨by omega, hkN⟩))
        have HD6 := Lib.hid (HD5.out.tell k cu)
        have hV := HD6.out.fr.at_.look (u := (k : Int)) (by unfold Sm; omega)
        obtain ⟨VA, vc, hVe, -⟩ := (HD6.out.fr.at_.row k).rd
        rw [hVe] at hV
        have HVE := Lib.hid hVe
        have HB6 := Lib.hid (HBX.out.set (k := k) (c := cu) hbne)
        have HYK := Lib.hid (show updZ Z (k : Int) cu k = cu by simp [updZ])
        have HGL := Lib.hid (Nat.le_trans (grp_len l k) (Nat.le_trans (Nat.le_of_eq HLM.out) hm))
        have HMG := Lib.hid (fun x => mem_grp (l := l) (u := (k : Int)) (x := x))
        have HDK := Lib.hid (show DK N l s (updZ Z (k : Int) cu) q1 (grp l k) from ⟨HTK.out, by
          have h1 := HK.out.2
          have h2 := HCN.out
          have h3 := HL4.out
          have h4 := HGL.out
          simp at h1
          omega⟩)
        rw [hz] at hout
        clear HTK HK HM4 hVe hz hz1
        go_wp2_with fail
        clear hV hout hofr
        generalize hmm : (grp l (k : Int)).length = mm at HVE HGL ⊢
        have HMM := Lib.hid hmm
        clear hmm
        generalize hls : grp l (k : Int) = ls at HVE HDK HMG HMM
        have HLS := Lib.hid hls
        clear hls
        generalize updZ Z (k : Int) cu = Y at *
        generalize World.setCell _ _ _ = w6 at HD6 HOFF HB6 ⊢
        clear HD5 HBX
        generalize w4.heap.size = X at *
        clear w4
        go_loopw [56] (fun v wx => ∃ (i : Nat) (q2 : Wq), i ≤ mm ∧ v = .int .i64 i ∧ DM w l N bd Bf E bm m V p wx Y q2 ∧ DK N l s Y q2 (ls.drop i) ∧ OffW wx p X ∧ BoxR wx X k cu ∧ q2.length ≤ q0.length + i) (fun v _ => mm - (intOf v).toNat)
        case atStart => exact ⟨0, q1, Nat.zero_le _, rfl, HD6.out, HDK.out, HOFF.out, HB6.out, Nat.le_of_eq HL4.out⟩
        case round =>
          obtain ⟨i, q2, hi, rfl, hd, hk2, ho, hb, hql⟩ := hrel
          have HD := Lib.hid hd
          have HK := Lib.hid hk2
          have HO := Lib.hid ho
          have HBX := Lib.hid hb
          clear hd hk2 ho hb HD6 HDK HOFF HB6
          have hi0 : (0 : Int) ≤ i := by omega
          by_cases him : i < mm
          · have hi1 : (i : Int) < mm := by omega
            have hmm := HGL.out
            have hrd : Rd lkc 3 wr VA mm ls := by
              obtain ⟨A', c', e, hr⟩ := (HD.out.fr.at_.row k).rd
              rw [HLS.out, HMM.out, HVE.out] at e
              rw [HLS.out, HMM.out] at hr
              cases e
              exact hr
            obtain ⟨⟨xf, xt, xc⟩, b, off, hx, rfl, hcell⟩ := hrd.at_ him
            have c0 := hcell 0 _ rfl
            have c1 := hcell 1 _ rfl
            have c2 := hcell 2 _ rfl
            rw [Nat.add_zero] at c0
            simp only at c0 c1 c2
            have hin := (HMG.out _).1 (List.mem_of_getElem? hx)
            simp only at hin
            obtain ⟨hin, rfl⟩ := hin
            have hok := HG.out.ok _ hin
            simp only at hok
            obtain ⟨t, rfl, ht1⟩ := nat_of_lt hok.2.2.1 hok.2.2.2.1
            have hc1 := hok.2.2.2.2
            have HX := Lib.hid (show ls.drop i = ⟨(k : Int), (t : Int), xc⟩ :: ls.drop (i + 1) from by
              obtain ⟨hi9, e⟩ := List.getElem?_eq_some_iff.1 hx
              rw [List.drop_eq_getElem_cons hi9, e])
            have HIN := Lib.hid hin
            clear hx hcell hok hrd hin
            go_upto_region 11 with fail
            have HBL := Lib.hid (show BoxL (wr.alloc (.cells #[.int .i64 (k : Int), .int .i64 (t : Int), .int .i64 xc] 34)) wr.heap.size k t xc from heap_alloc_new _ _)
            have hal := below_al1 wr (.cells #[.int .i64 (k : Int), .int .i64 (t : Int), .int .i64 xc] 34)
            have HDA := Lib.hid (HD.out.below hal)
            have HOA := Lib.hid (HO.out.below (by obtain ⟨_, _, _, _, _, _, _, _, _, _, h⟩ := HD.out.wt.cell; exact h) hal)
            have HRA := Lib.hid (HBX.out.below hal)
            clear hal
            generalize hA : wr.heap.size = bl at HBL ⊢
            clear hA
            generalize World.alloc _ _ = wa at HBL HDA HOA HRA ⊢
            clear HD HO HBX c0 c1 c2
            obtain ⟨bq, b0, b1, b2⟩ := HBL.out.cells
            obtain ⟨rq, r0, r1⟩ := HRA.out.cells
            have hot := HDA.out.row.cell (i := t) (by omega)
            have hw : IntKind.i64.wrap (cu + xc) = cu + xc := IntWalk.i64_in _ (by omega)
            by_cases hz2 : Y (t : Int) = -1
            · rw [hz2] at hot
              have HPU := Lib.hid (hpush_any (X := X) HDA.out.wt HOA.out HDA.out.hp ((t : Int), cu + xc) (by have := HK.out.few (by omega); omega) HDA.out.ord.2.2.1)
              go_wp2_with (go_at_call 71; refine (HPU.out).mono ?_; rintro e w5 ⟨rfl, q3, hw5, hh5, hl5, hm5, hb5, ho5, hx5⟩)
              have HDP := Lib.hid (HDA.out.turn hb5 hw5 hh5)
              have HIP := Lib.hid (DInv.push (r := q3) (x := ⟨(k : Int), (t : Int), xc⟩) (by rw [← HX.out]; exact HK.out.1) HG.out HS.out HIN.out (by simp only; rw [HYK.out]; omega) (fun y => by simp only; rw [HYK.out]; exact hm5 y))
              have HKB := Lib.hid HK.out.2
              have hrx : BoxR w5 X k cu := hx5.trans HRA.out
              have HRX := Lib.hid hrx
              clear hrx hx5 hb5 hw5 hh5 hm5
              refine ⟨⟨i + 1, q3, by omega, by go_num, HDP.out, ⟨HIP.out, ?_⟩, ho5, HRX.out, by omega⟩, ?_⟩
              · have h1 := HKB.out
                rw [HX.out, List.length_cons] at h1
                omega
              · simp [intOf]; omega
            · have hz3 : (Y (t : Int) == -1) = false := by simpa using hz2
              have HPS := Lib.hid (DInv.pass (x := ⟨(k : Int), (t : Int), xc⟩) (by rw [← HX.out]; exact HK.out.1) hz2)
              have HKB := Lib.hid HK.out.2
              go_wp2_with fail
              refine ⟨⟨i + 1, q2, by omega, by go_num, HDA.out, ⟨HPS.out, ?_⟩, HOA.out, HRA.out, by omega⟩, ?_⟩
              · have h1 := HKB.out
                rw [HX.out, List.length_cons] at h1
                omega
              · simp [intOf]; omega
          · obtain rfl : i = mm := by omega
            have him2 : ¬ (i : Int) < i := by omega
            go_wp2_with fail
            have HK1 := HK.out
            rw [List.drop_of_length_le (Nat.le_of_eq HMM.out)] at HK1
            refine ⟨⟨Y, q2, HD.out, HK1⟩, ?_⟩
            have h1 := leftD_eq (n := N) HD.out rfl
            have h2 := HMS.out
            have h3 := HCN.out
            have h4 := cntZ_le Y (nodes N)
            have h5 := HGL.out
            rw [nodes_len] at h4
            rw [List.length_cons] at h2
            rw [h1, h2]
            omega
      · have hz1 : (Z (k : Int) == -1) = false := by simpa using hz
        have HSK := Lib.hid (HK.out.1.skip HM4.out.1 hz)
        have HBN := Lib.hid HK.out.2
        clear hz
        generalize Z (k : Int) = zk at hout hz1
        go_wp2_with fail
        refine ⟨⟨Z, q1, HD5.out, HSK.out, ?_⟩, ?_⟩
        · have h1 := HBN.out
          have h2 := HL4.out
          simp at h1 ⊢
          omega
        · rw [HMS.out, leftD_eq (n := N) HD5.out rfl, HL4.out]
          simp
end Go.Proofs.Ytmdcfiejkbhgpaa
