/-
  spf.next, walked.
-/
import Derived.Test.YtmdcfiejkbhgpaaFin
namespace Go.Proofs.Ytmdcfiejkbhgpaa
open Go.RowKit

/-- block b holds what Y says at each of N places -/
def RowL (w : World) (b N : Nat) (Y : Int → Int) : Prop := ∀ i : Nat, i < N → w.cell? ⟨b, i, none⟩ = some (.int .i64 (Y (i : Int)))
theorem RowL.below {w w' : World} {b N : Nat} {Y : Int → Int} (h : RowL w b N Y) (hb : Below w.heap.size w w') : RowL w' b N Y :=
  fun i hi => (hb.cell (World.block_lt_of_cell? w _ (h i hi))).trans (h i hi)
theorem RowZ.rowL {w : World} {B b N : Nat} {Z : Int → Int} (h : RowZ w B b N Z) : RowL w b N Z := fun _ hi => h.cell hi

set_option maxRecDepth 100000 in
set_option maxHeartbeats 8000000 in
theorem next_any {w : World} {A : Option Addr} {m c b N : Nat} {n a t : Int} {l : List Lk} (hr : Rd lkc 3 w A m l) (hg : GOk n l) (hN : n = N) (ha : 0 ≤ a ∧ a < n) (ht : 0 ≤ t ∧ t < n) (hl : RowL w b N (fun v => D l v t)) (hm : m ≤ 1000) :
    Calls Try.prog 48 #[.slice A m c, .slice (some ⟨b, 0, none⟩) N N, .int .i64 a] w fun e w' => ∃ v, e = .returned v ∧ IntsAt w' w.heap.size v (nexts n l a t) ∧ Below w.heap.size w w' := by
  subst hN
  obtain ⟨s, rfl, ha1⟩ := nat_of_lt ha.1 ha.2
  have hN64 : N ≤ 64 := by have := hg.n64; omega
  have HL := Lib.hid hr
  have HM := Lib.hid hr.1
  have HG := Lib.hid hg
  have HT := Lib.hid ht
  have HW := Lib.hid hl
  have HDT := Lib.hid (fun v (h : 0 ≤ v ∧ v < (N : Int)) => And.intro (D_top (l := l) hg (a := v) (t := t) h) (D_ge hg.pos v t))
  have hbw : Below w.heap.size w w := Below.refl _ _
  clear hr hg ht hl ha
  go_enter Try.func48, Try.ntmps48
  go_wp2_with fail
  go_loopw [7, 12] (fun o v wr => ∃ i : Nat, i ≤ m ∧ v = .int .i64 i ∧ IntsAt wr w.heap.size o (endsN l t s i) ∧ Below w.heap.size w wr) (fun _ v _ => m - (intOf v).toNat)
  case atStart => exact ⟨0, Nat.zero_le _, rfl, intsAt_nil _ _, hbw⟩
  case round =>
    rename_i u7 u8
    obtain ⟨i, hi, rfl, hown, hbr⟩ := hrel
    have HO := Lib.hid hown
    have HB := Lib.hid hbr
    have hi0 : (0 : Int) ≤ i := by omega
    by_cases hlt : i < m
    · obtain ⟨⟨xf, xt, xc⟩, b1, off, hx, rfl, hcell⟩ := (HL.out.below HB.out).at_ hlt
      have hi1 : (i : Int) < m := by omega
      have c0 := hcell 0 _ rfl
      have c1 := hcell 1 _ rfl
      have c2 := hcell 2 _ rfl
      rw [Nat.add_zero] at c0
      simp only at c0 c1 c2
      have hok := HG.out.ok _ (List.mem_of_getElem? hx)
      simp only at hok
      obtain ⟨u, rfl, hu1⟩ := nat_of_lt hok.2.2.1 hok.2.2.2.1
      have hc1 := hok.2.2.2.2
      have HST := Lib.hid (endsN_step (t := t) (a := (s : Int)) hx)
      have hlen6 : (endsN l t s i).length ≤ 1000000 := by have := endsN_len l t s i; omega
      clear hx hcell hown hbr
      go_upto_region 5 with fail
      have HBX := Lib.hid (show BoxL (wr.alloc (.cells #[.int .i64 xf, .int .i64 (u : Int), .int .i64 xc] 34)) wr.heap.size xf u xc from heap_alloc_new _ _)
      have HBA := Lib.hid (HB.out.alloc HB.out.size (.cells #[.int .i64 xf, .int .i64 (u : Int), .int .i64 xc] 34))
      have HOA := Lib.hid (HO.out.below (below_al1 wr (.cells #[.int .i64 xf, .int .i64 (u : Int), .int .i64 xc] 34)))
      generalize hA : wr.heap.size = bl at HBX ⊢
      clear hA
      generalize World.alloc _ _ = wa at HBX HBA HOA ⊢
      clear c0 c1 c2 HO HB
      obtain ⟨q, q0, q1, q2⟩ := HBX.out.cells
      have hrl := HW.out.below HBA.out
      have hcs := hrl s (by omega)
      have hcu := hrl u (by omega)
      have hb1 := HDT.out s ⟨by omega, ha1⟩
      have hb2 := HDT.out u ⟨by omega, hu1⟩
      have HLN := Lib.hid (show linkN l t s ⟨xf, u, xc⟩ = ((xf == (s : Int)) && (decide (D l s t > 0) && ((D l u t != -1) && (xc + D l u t == D l s t)))) from rfl)
      clear hrl
      simp only at hcs hcu
      generalize D l s t = zs at *
      generalize D l u t = zu at *
      have hw : IntKind.i64.wrap (xc + zu) = xc + zu := IntWalk.i64_in _ (by omega)
      have hs0 : (0 : Int) ≤ s := by omega
      have hu0 : (0 : Int) ≤ u := by omega
      have HF := Lib.hid (fun (e : linkN l t s ⟨xf, u, xc⟩ = false) => (show endsN l t s (i + 1) = endsN l t s i by rw [HST.out, e]; simp))
      have HTR := Lib.hid (fun (e : linkN l t s ⟨xf, u, xc⟩ = true) => (show endsN l t s (i + 1) = endsN l t s i ++ [(u : Int)] by rw [HST.out, e]; simp))
      rw [HLN.out] at HF HTR
      clear HST HLN
      by_cases h1 : xf = s
      · have d1 : (xf == (s : Int)) = true := by simp [h1]
        by_cases h2 : zs > 0
        · have d2 : decide (zs > 0) = true := decide_eq_true h2
          by_cases h3 : zu = -1
          · have d5 : (zu != -1) = false := by simp [h3]
            have HE := Lib.hid (HF.out (by rw [d1, d2, d5]; rfl))
            clear h1 h2 h3 HF HTR
            go_quiet (fail)
            go_wp2_with fail
            exact ⟨⟨i + 1, by omega, by go_num, by rw [HE.out]; exact HOA.out.below (below_dN _), HBA.out.trans ((below_dN _).mono HBA.out.size)⟩, by simp [intOf]; omega⟩
          · have d5 : (zu != -1) = true := by simp [h3]
            by_cases h4 : xc + zu = zs
            · have d4 : (xc + zu == zs) = true := by simp [h4]
              have HE := Lib.hid (HTR.out (by rw [d1, d2, d5, d4]; rfl))
              clear h1 h2 h3 h4 HF HTR
              go_quiet (fail)
              have HN := Lib.hid (fun (W : World) (hb : Below wa.heap.size wa W) => (⟨HBX.out.below hb, HOA.out.below hb, HBA.out.trans (hb.mono HBA.out.size)⟩ : BoxL W bl xf u xc ∧ IntsAt W w.heap.size u7 (endsN l t s i) ∧ Below w.heap.size w W))
              have hw0 := below_dN (w := wa) nq
              generalize wa.drewN nq = wb at hw0 ⊢
              obtain ⟨hx3, ho3, hb3⟩ := HN.out wb hw0
              have HO3 := Lib.hid ho3
              have HB3 := Lib.hid hb3
              clear hw0 ho3 hb3 q q0 q1 q2 hcs hcu HN
              obtain ⟨q, q0, q1, q2⟩ := hx3.cells
              clear hx3
              go_wp2_with (at_builtin; refine app_int rfl (.tmp 50) (.tmp 53) rfl w.heap.size _ _ (u : Int) rfl (HO3.out.below (below_al1 _ _)) wb.heap.size rfl (one_int _ _) hlen6 (HB3.out.alloc HB3.out.size _).size ?_; intro v2 w2 hown2 hg2; have HO2 := Lib.hid hown2; have HB2 := Lib.hid (intsAt_app (HB3.out.alloc HB3.out.size _) (HO3.out.below (below_al1 _ _)) hg2); clear hown2 hg2)
              go_roundw
              case rel => exact ⟨i + 1, by omega, by go_num, by rw [HE.out]; exact HO2.out, HB2.out⟩
              case measure => simp [intOf]; omega
            · have d4 : (xc + zu == zs) = false := by simp [h4]
              have HE := Lib.hid (HF.out (by rw [d1, d2, d5, d4]; rfl))
              clear h1 h2 h3 h4 HF HTR
              go_quiet (fail)
              go_wp2_with fail
              exact ⟨⟨i + 1, by omega, by go_num, by rw [HE.out]; exact HOA.out.below (below_dN _), HBA.out.trans ((below_dN _).mono HBA.out.size)⟩, by simp [intOf]; omega⟩
        · have d2 : decide (zs > 0) = false := decide_eq_false h2
          have HE := Lib.hid (HF.out (by rw [d1, d2]; rfl))
          clear h1 h2 HF HTR
          go_quiet (fail)
          go_wp2_with fail
          exact ⟨⟨i + 1, by omega, by go_num, by rw [HE.out]; exact HOA.out.below (below_dN _), HBA.out.trans ((below_dN _).mono HBA.out.size)⟩, by simp [intOf]; omega⟩
      · have d1 : (xf == (s : Int)) = false := by simp [h1]
        have HE := Lib.hid (HF.out (by rw [d1]; rfl))
        clear h1 HF HTR
        go_quiet (fail)
        go_wp2_with fail
        exact ⟨⟨i + 1, by omega, by go_num, by rw [HE.out]; exact HOA.out.below (below_dN _), HBA.out.trans ((below_dN _).mono HBA.out.size)⟩, by simp [intOf]; omega⟩
    · have hge : ¬ (i : Int) < m := by omega
      have HE := Lib.hid (sortI_endsN HG.out (t := t) (a := (s : Int)) (k := i) (by rw [HM.out]; omega))
      have hln := endsN_len l t s i
      have HSO := Lib.hid (sort_calls HO.out (by omega))
      clear hi hlt hown hbr
      go_wp2_with (go_at_call 72; refine (HSO.out).mono ?_; rintro e w2 ⟨rfl, hs2, hg2⟩)
      go_ret
      exact ⟨_, rfl, by rw [← HE.out]; exact hs2, intsAt_app HB.out HO.out hg2⟩
end Go.Proofs.Ytmdcfiejkbhgpaa
