/-
  The law SpfBack, walked. (Its end is printed by genlaws.py, behind backhead.txt.)
-/
import Derived.Test.YtmdcfiejkbhgpaaThird
namespace Go.Proofs.Ytmdcfiejkbhgpaa
open Go.RowKit

theorem D_set {l m : List Lk} (hp : Pos l) (h : ∀ x, x ∈ l ↔ x ∈ m) (s t : Int) : D l s t = D m s t := by
  have hpm : Pos m := fun x hx => hp x ((h x).2 hx)
  refine D_eq hp ?_
  rcases D_is hpm s t with ⟨h1, h2⟩ | ⟨h0, h1, h2⟩
  · exact .inl ⟨h1, fun c hc => h2 c (hc.mono fun x hx => (h x).1 hx)⟩
  · exact .inr ⟨h0, h1.mono fun x hx => (h x).2 hx, fun c hc => h2 c (hc.mono fun x hx => (h x).1 hx)⟩
/-- each link goes back for the same -/
def Sym (l : List Lk) : Prop := ∀ x ∈ l, turn x ∈ l
theorem sym_nil : Sym [] := fun x hx => by cases hx
theorem turn_two (x : Lk) : turn (turn x) = x := rfl
theorem Sym.app {l : List Lk} (h : Sym l) (f t c : Int) : Sym (l ++ [⟨f, t, c⟩, ⟨t, f, c⟩]) := by
  intro x hx
  rcases List.mem_append.1 hx with h1 | h1
  · exact List.mem_append.2 (.inl (h x h1))
  · refine List.mem_append.2 (.inr ?_)
    simp at h1
    rcases h1 with rfl | rfl <;> simp [turn]
theorem D_sym {l : List Lk} (hp : Pos l) (h : Sym l) (s t : Int) : D l s t = D l t s := by
  have e : ∀ x, x ∈ l ↔ x ∈ l.map turn := fun x => by
    rw [List.mem_map]
    constructor
    · intro hx; exact ⟨turn x, h x hx, turn_two x⟩
    · rintro ⟨y, hy, rfl⟩; exact h y hy
  rw [D_set hp e s t, D_turn hp]
/-- what the law asks of the next nodes -/
theorem next_law {n : Int} {l : List Lk} (hg : GOk n l) (hsy : Sym l) {s t : Int} (hs : 0 ≤ s ∧ s < n) (ht : 0 ≤ t ∧ t < n) :
    (nextsU n l s t).length ≤ 64 ∧ (∀ y ∈ nextsU n l s t, (0 ≤ y ∧ y < n) ∧ ∃ k, costV l [s, y] = .tuple #[.int .i64 k, .bool true] ∧ k + D l t y = D l s t ∧ 0 ≤ k ∧ k ≤ 16777216) ∧ (((nextsU n l s t).length = 0) ↔ D l s t ≤ 0) := by
  refine ⟨nextsU_few n l s t, fun y hy => ?_, ?_⟩
  · rw [nextsU_eq hg hs ht, mem_nexts hg] at hy
    obtain ⟨h1, k, hk, h2, h3⟩ := hy
    have hok := hg.ok _ hk
    simp only at hok
    refine ⟨⟨hok.2.2.1, hok.2.2.2.1⟩, k, ?_, by rw [D_sym hg.pos hsy t y]; exact h3, by omega, by omega⟩
    unfold costV
    have e : costG l [s, y] = some k := by
      show costF l s [y] = some k
      unfold costF
      rw [(linkC_some hg).2 hk]
      simp [costF]
    rw [e]
    rfl
  · rw [nextsU_eq hg hs ht]
    constructor
    · intro h
      by_cases h1 : 1 ≤ D l s t
      · obtain ⟨b, r, e, _⟩ := nexts_cons hg h1
        rw [e] at h
        simp at h
      · omega
    · intro h
      rw [nexts_nil (by omega)]
      rfl
/-- two links put behind a row of the call's own -/
theorem app_two {ops : Array Oper} {rest : List Oper} {o : Oper} {a : Act} {w : World} {Q : Exit → Act → World → Prop} (hgd : o.guard = none) (s x : Operand)
    (ho : o.op = .call { callee := .builtin .append, args := #[s, x], argTypes := #[22, 22] })
    (B : Nat) (v : Value) (l : List Lk) (y z : Lk) (hs : a.eval s = v) (hown : LksAt w B v l) (b : Nat) (hx : a.eval x = .slice (some ⟨b, 0, none⟩) 2 2) (hr : ∀ j u, (lkc y ++ lkc z)[j]? = some u → w.cell? ((⟨b, 0, none⟩ : Addr).add j) = some u)
    (hsz : l.length ≤ 1000000) (hB : B ≤ w.heap.size)
    (h : ∀ v' w', LksAt w' B v' (l ++ [y, z]) → w.grownBy w' v.ownBlock → wpList Try.prog ops Q rest (a.put o.dst v') w') : wpList Try.prog ops Q (o :: rest) a w := by
  obtain ⟨i0, hi, hz0, hz1, hz2⟩ := info_parts Try.info_link
  have hone : ∀ u ∈ lkc y ++ lkc z, u.oneCell' = true := by
    intro u hu
    rcases List.mem_append.1 hu with h1 | h1
    · exact lkc_one y u h1
    · exact lkc_one z u h1
  refine wpList_append_own_at w hgd s x 22 ho B 34 i0 (.agg #[.int .i64 0, .int .i64 0, .int .i64 0]) 3 24 Try.underlying22 hi hz0 hz1 hz2 rfl (by decide) v _ _ hs hown ⟨b, 0, none⟩ 2 2 (lkc y ++ lkc z) hx rfl hr hone (by unfold maxLen; omega) (by omega) hB ?_
  intro v' w' hown' hg _ _
  refine h v' w' ?_ hg
  unfold LksAt
  rw [flatE_append, List.length_append]
  have e : flatE lkc [y, z] = lkc y ++ lkc z := by simp [flatE]
  rw [e]
  exact hown'
theorem two_links (w : World) (y z : Lk) : ∀ j u, (lkc y ++ lkc z)[j]? = some u → (w.alloc (.cells #[.int .i64 y.f, .int .i64 y.t, .int .i64 y.c, .int .i64 z.f, .int .i64 z.t, .int .i64 z.c] 34)).cell? ((⟨w.heap.size, 0, none⟩ : Addr).add j) = some u := new_cells w (lkc y ++ lkc z) 34

set_option maxRecDepth 100000 in
set_option maxHeartbeats 8000000 in
theorem backlaw_any {W : World} {A : Option Addr} {m c : Nat} {l : List Lk} (hr : Rd lkc 3 W A m l) (_hmx : m ≤ maxLen) (n s t a b : Int) :
    Calls Try.prog 7 #[.agg #[.int .i64 n, .slice A m c, .int .i64 s, .int .i64 t, .int .i64 a, .int .i64 b]] W fun e w' => e = .returned (.bool true) ∧ Below W.heap.size W w' := by
  have HL := Lib.hid hr
  have HA := Lib.hid (awake_any (W.alloc (.cells (gcs n A m c s t a b) 24)))
  clear hr
  go_enter Try.func7, Try.ntmps7
  go_wp2_with fail
  refine (HA.out).mono ?_
  rintro e w1 ⟨rfl, hb1⟩
  have hal := below_al1 W (.cells (gcs n A m c s t a b) 24)
  have HBG1 := Lib.hid (show BoxG w1 W.heap.size n A m c s t a b from BoxG.below (heap_alloc_new _ _) hb1)
  have HW1 := Lib.hid (hal.trans (hb1.mono hal.size))
  have HL1 := Lib.hid (HL.out.below HW1.out)
  generalize hbx : W.heap.size = bx at HBG1 ⊢
  have HBX := Lib.hid hbx
  clear hbx hb1 hal HL HA
  have HB0 := Lib.hid (Below.refl w1.heap.size w1)
  go_wp2_with fail
  go_loopw [4, 5] (fun o v wr => ∃ (i : Nat) (R : List Lk), i ≤ m ∧ i ≤ 15 ∧ v = .int .i64 i ∧ R.length ≤ 2 * i ∧ Sym R ∧ LksAt wr w1.heap.size o R ∧ Below w1.heap.size w1 wr) (fun _ v _ => 15 - (intOf v).toNat)
  case atStart => exact ⟨0, [], Nat.zero_le _, Nat.zero_le _, rfl, Nat.le_refl _, sym_nil, lksAt_nil _ _, HB0.out⟩
  case round =>
    rename_i o4 o5
    obtain ⟨i, R, hi, hi15, rfl, hlen, hsy, hown, hbr⟩ := hrel
    have HSY := Lib.hid hsy
    have HO := Lib.hid hown
    have HB := Lib.hid hbr
    obtain ⟨p0, p1, p2, p3, p4, p5, p6⟩ := (HBG1.out.below hbr).cells
    have hi0 : (0 : Int) ≤ i := by omega
    by_cases hgo : i < m ∧ i < 15
    · have d1 : decide ((i : Int) < m) = true := decide_eq_true (by omega)
      have d2 : decide ((i : Int) < 15) = true := decide_eq_true (by omega)
      have hi1 : (i : Int) < m := by omega
      obtain ⟨⟨xf, xt, xc⟩, b1, off, hx, rfl, hcell⟩ := (HL1.out.below HB.out).at_ hgo.1
      have c0 := hcell 0 _ rfl
      have c1 := hcell 1 _ rfl
      have c2 := hcell 2 _ rfl
      rw [Nat.add_zero] at c0
      simp only at c0 c1 c2
      obtain ⟨B, d, rfl, hrd⟩ := hown.rd
      have HRD := Lib.hid hrd
      have hlen6 : R.length ≤ 1000000 := by omega
      have hlen7 : R.length ≤ 30 := by omega
      clear hx hcell hown hrd hsy hbr
      go_upto_region 9 with fail
      have HXB := Lib.hid (show BoxL (wr.alloc (.cells #[.int .i64 xf, .int .i64 xt, .int .i64 xc] 34)) wr.heap.size xf xt xc from heap_alloc_new _ _)
      have hal := below_al1 wr (.cells #[.int .i64 xf, .int .i64 xt, .int .i64 xc] 34)
      have HBA := Lib.hid (HB.out.trans (hal.mono HB.out.size))
      have HOA := Lib.hid (HO.out.below hal)
      have HRA := Lib.hid (HRD.out.below hal)
      clear hal
      generalize hA : wr.heap.size = bl at HXB ⊢
      clear hA
      generalize World.alloc _ _ = wa at HXB HBA HOA HRA ⊢
      clear c0 c1 c2 p0 p1 p2 p3 p4 p5 p6 HO HB HRD
      have HBI := Lib.hid (Below.refl wa.heap.size wa)
      go_wp2_with fail
      generalize hRl : R.length = K at hlen hlen6 hlen7 HRA ⊢
      have HKL := Lib.hid hRl
      clear hRl
      go_loopw [7, 8] (fun is v wx => ∃ (f : Bool) (k : Nat), k ≤ K ∧ is = .bool f ∧ v = .int .i64 k ∧ Below wa.heap.size wa wx) (fun _ v _ => K - (intOf v).toNat)
      case atStart => exact ⟨false, 0, Nat.zero_le _, rfl, rfl, HBI.out⟩
      case round =>
        obtain ⟨f, k, hk, rfl, rfl, hbx⟩ := hrel
        have HBX3 := Lib.hid hbx
        have HX3 := Lib.hid (HXB.out.below hbx)
        have HR3 := Lib.hid (HRA.out.below hbx)
        have HB3 := Lib.hid (HBA.out.trans (hbx.mono HBA.out.size))
        have HO3 := Lib.hid (HOA.out.below hbx)
        clear hbx HBI
        obtain ⟨q, q0, q1, q2⟩ := HX3.out.cells
        have hk0 : (0 : Int) ≤ k := by omega
        by_cases hlt : k < K
        · have hk1 : (k : Int) < K := by omega
          have HRX := Lib.hid (fun q => HBX3.out.trans ((below_dN (w := wr) q).mono HBX3.out.size))
          cases f with
          | true =>
            go_wp2_with fail
            go_quiet (fail)
            go_wp2_with fail
            exact ⟨⟨true, k + 1, by omega, rfl, by go_num, HRX.out _⟩, by simp [intOf]; omega⟩
          | false =>
            obtain ⟨⟨yf, yt, yc⟩, b2, o2, hy, rfl, hcy⟩ := HR3.out.at_ hlt
            have y0 := hcy 0 _ rfl
            have y1 := hcy 1 _ rfl
            rw [Nat.add_zero] at y0
            simp only at y0 y1
            clear hy hcy
            by_cases h1 : yf = xf
            · have e1 : (yf == xf) = true := by simpa using h1
              clear h1
              go_wp2_with fail
              go_quiet (fail)
              go_wp2_with fail
              exact ⟨⟨(yt == xt), k + 1, by omega, rfl, by go_num, HRX.out _⟩, by simp [intOf]; omega⟩
            · have e1 : (yf == xf) = false := by simpa using h1
              clear h1
              go_wp2_with fail
              go_quiet (fail)
              go_wp2_with fail
              exact ⟨⟨false, k + 1, by omega, rfl, by go_num, HRX.out _⟩, by simp [intOf]; omega⟩
        · have hge : ¬ (k : Int) < K := by omega
          cases f with
          | true =>
            go_wp2_with fail
            refine ⟨⟨i + 1, R, by omega, by omega, by go_num, by rw [HKL.out]; omega, HSY.out, by rw [← HKL.out]; exact HO3.out, HB3.out⟩, by simp [intOf]; omega⟩
          | false =>
            have HN2 := Lib.hid (two_links wr ⟨xf, xt, xc⟩ ⟨xt, xf, xc⟩)
            have hlen8 : R.length ≤ 1000000 := by rw [HKL.out]; omega
            have hos : LksAt wr w1.heap.size (.slice B K d) R := by rw [← HKL.out]; exact HO3.out
            have HOS := Lib.hid hos
            clear hos
            go_wp2_with (at_builtin; refine app_two rfl (.tmp 63) (.tmp 72) rfl w1.heap.size _ R ⟨xf, xt, xc⟩ ⟨xt, xf, xc⟩ rfl (HOS.out.below (below_al1 _ _)) wr.heap.size rfl HN2.out hlen8 (HB3.out.alloc HB3.out.size _).size ?_; intro v2 w2 hown2 hg2; have HO4 := Lib.hid hown2; have HB4 := Lib.hid (lksAt_app (HB3.out.alloc HB3.out.size _) (HOS.out.below (below_al1 _ _)) hg2); clear hown2 hg2)
            go_roundw
            case rel => exact ⟨i + 1, R ++ [⟨xf, xt, xc⟩, ⟨xt, xf, xc⟩], by omega, by omega, by go_num, by rw [List.length_append, HKL.out]; simp; omega, HSY.out.app xf xt xc, HO4.out, HB4.out⟩
            case measure => simp [intOf]; omega
    · by_cases h1 : i < m
      · obtain rfl : i = 15 := by omega
        have d1 : (15 : Int) < m := by omega
        have d2 : decide ((15 : Int) < m) = true := decide_eq_true d1
        have d3 : 15 < m := h1
        rw [show (((15 : Nat) : Int)) = 15 from rfl]
        clear h1 hgo
        obtain ⟨B, d, rfl, hrd⟩ := hown.rd
        have HL5 := Lib.hid hrd
        have HBG5 := Lib.hid (HBG1.out.below hbr)
        have HW5 := Lib.hid (HW1.out.trans (hbr.mono HW1.out.size))
        have hK30 : R.length ≤ 30 := by omega
        clear hrd hown hbr hsy HO HB HBG1 HW1 HL1 HB0 hlen
        generalize R.length = K at HL5 hK30 ⊢
        have hK3 : K ≤ 1000 := by omega
        have HCK := Lib.hid (check_any (c := d) HL5.out n hK3)
        have HG := Lib.hid (fun h : chkG n R = 0 => (chkG_ok (n := n) (l := R)).1 h)
        generalize chkG n R = ck at HCK HG
        go_wp2_with fail
        refine (HCK.out).mono ?_
        rintro e w2 ⟨rfl, hb2⟩
        have HBG2 := Lib.hid (HBG5.out.below hb2)
        have HW2 := Lib.hid (HW5.out.trans (hb2.mono HW5.out.size))
        have HL2 := Lib.hid (HL5.out.below hb2)
        clear p0 p1 p2 p3 p4 p5 p6 HBG5 HW5 HL5 HCK hb2
        obtain ⟨p0, p1, p2, p3, p4, p5, p6⟩ := HBG2.out.cells
        by_cases hck : ¬ ck = 0
        · have hckb : (ck != 0) = true := by simpa using hck
          go_wp2_with fail
          go_ret
          exact ⟨rfl, by have := HBX.out; subst this; exact HW2.out⟩
        · have hckb : (ck != 0) = false := by simpa using hck
          by_cases hs0 : s < 0
          · have hs0b : (decide (s < 0)) = true := by simpa using hs0
            go_wp2_with fail
            go_ret
            exact ⟨rfl, by have := HBX.out; subst this; exact HW2.out⟩
          · have hs0b : (decide (s < 0)) = false := by simpa using hs0
            by_cases hs1 : s ≥ n
            · have hs1b : (decide (s ≥ n)) = true := by simpa using hs1
              go_wp2_with fail
              go_ret
              exact ⟨rfl, by have := HBX.out; subst this; exact HW2.out⟩
            · have hs1b : (decide (s ≥ n)) = false := by simpa using hs1
              by_cases ht0 : t < 0
              · have ht0b : (decide (t < 0)) = true := by simpa using ht0
                go_wp2_with fail
                go_ret
                exact ⟨rfl, by have := HBX.out; subst this; exact HW2.out⟩
              · have ht0b : (decide (t < 0)) = false := by simpa using ht0
                by_cases ht1 : t ≥ n
                · have ht1b : (decide (t ≥ n)) = true := by simpa using ht1
                  go_wp2_with fail
                  go_ret
                  exact ⟨rfl, by have := HBX.out; subst this; exact HW2.out⟩
                · have ht1b : (decide (t ≥ n)) = false := by simpa using ht1
                  have hg := HG.out (by simpa using hck)
                  have HGK := Lib.hid hg
                  have hn64 := hg.n64
                  obtain ⟨N, hN⟩ : ∃ N : Nat, n = N := ⟨n.toNat, by omega⟩
                  subst hN
                  obtain ⟨S, rfl, hS1⟩ := nat_of_lt (n := (N : Int)) (v := s) (by omega) (by omega)
                  obtain ⟨T, rfl, hT1⟩ := nat_of_lt (n := (N : Int)) (v := t) (by omega) (by omega)
                  have hRS := rightG_in hg (x := (S : Int)) ⟨by omega, hS1⟩
                  have hRT := rightG_in hg (x := (T : Int)) ⟨by omega, hT1⟩
                  have hsym := D_sym hg.pos HSY.out (S : Int) T
                  have hb1 := And.intro (D_ge hg.pos (S : Int) T) (D_top (l := R) hg (a := (S : Int)) (t := T) ⟨by omega, hS1⟩)
                  have htt := fun y : Int => And.intro (D_ge hg.pos (T : Int) y) (D_top (l := R) hg (a := (T : Int)) (t := y) ⟨by omega, hT1⟩)
                  obtain ⟨hln, hny, hnz⟩ := next_law hg HSY.out (s := (S : Int)) (t := (T : Int)) ⟨by omega, hS1⟩ ⟨by omega, hT1⟩
                  have HTT := Lib.hid htt
                  have HNY := Lib.hid hny
                  have HNZ := Lib.hid hnz
                  have HSM := Lib.hid (small_ok hg)
                  have HRS := Lib.hid hRS
                  have HRT := Lib.hid hRT
                  have HDI := Lib.hid (Dist_any (c := d) HL2.out N S hK3)
                  clear hg hRS hRT HG htt hny hnz
                  go_wp2_with fail
                  refine (HDI.out).mono ?_
                  rintro e w3 hgi
                  unfold GivesD at hgi
                  rw [if_pos HRS.out, Int.toNat_natCast] at hgi
                  obtain ⟨x1, rfl, hrow, hb⟩ := hgi
                  have HBG3 := Lib.hid (HBG2.out.below hb)
                  have HW3 := Lib.hid (HW2.out.trans (hb.mono HW2.out.size))
                  have HL3 := Lib.hid (HL2.out.below hb)
                  clear p0 p1 p2 p3 p4 p5 p6 HBG2 HW2 HL2
                  obtain ⟨p0, p1, p2, p3, p4, p5, p6⟩ := HBG3.out.cells
                  have HD3 := Lib.hid hrow.rowL
                  have HDJ := Lib.hid (Dist_any (c := d) HL3.out N T hK3)
                  clear hb hrow HDI
                  go_wp2_with fail
                  refine (HDJ.out).mono ?_
                  rintro e w4 hgi
                  unfold GivesD at hgi
                  rw [if_pos HRT.out, Int.toNat_natCast] at hgi
                  obtain ⟨x2, rfl, hrow, hb⟩ := hgi
                  have HBG4 := Lib.hid (HBG3.out.below hb)
                  have HW4 := Lib.hid (HW3.out.trans (hb.mono HW3.out.size))
                  have HL4 := Lib.hid (HL3.out.below hb)
                  clear p0 p1 p2 p3 p4 p5 p6 HBG3 HW3 HL3
                  obtain ⟨p0, p1, p2, p3, p4, p5, p6⟩ := HBG4.out.cells
                  have HD4 := Lib.hid (HD3.out.below hb)
                  have HE4 := Lib.hid hrow.rowL
                  have HNX := Lib.hid (Next_any (c := d) HL4.out N S T hK3)
                  clear hb hrow HDJ HD3
                  go_wp2_with fail
                  refine (HNX.out).mono ?_
                  rintro e w5 ⟨v, rfl, hnx, hb⟩
                  obtain ⟨NG, nc, rfl, hnc, hrn⟩ := hnx.rdc
                  have HBG5 := Lib.hid (HBG4.out.below hb)
                  have HW5 := Lib.hid (HW4.out.trans (hb.mono HW4.out.size))
                  have HL5 := Lib.hid (HL4.out.below hb)
                  clear p0 p1 p2 p3 p4 p5 p6 HBG4 HW4 HL4
                  obtain ⟨p0, p1, p2, p3, p4, p5, p6⟩ := HBG5.out.cells
                  have HD5 := Lib.hid (HD4.out.below hb)
                  have HE5 := Lib.hid (HE4.out.below hb)
                  have HN5 := Lib.hid hrn
                  clear hb hnx hrn HNX HD4 HE4
                  generalize nextsU N R S T = xs at HNY HNZ HN5 hln hnc ⊢
                  generalize hM : xs.length = M at HNZ HN5 hln hnc ⊢
                  clear hM
                  have HTH : Hid (∀ w', Below w5.heap.size w5 w' → BoxG w' bx N A m c S T a b ∧ Rd lkc 3 w' B K R ∧ RowL w' x1 N (D R S) ∧ RowL w' x2 N (D R T) ∧ Rd intc 1 w' NG M xs ∧ Below W.heap.size W w') := Lib.hid (fun w' h => ⟨HBG5.out.below h, HL5.out.below h, HD5.out.below h, HE5.out.below h, HN5.out.below h, HW5.out.trans (h.mono HW5.out.size)⟩)
                  have HBS := Lib.hid (Below.refl w5.heap.size w5)
                  have hT0 : (0 : Int) ≤ T := by omega
                  have hS0 : (0 : Int) ≤ S := by omega
                  clear HBG5 HL5 HD5 HE5 HN5 HW5
                  go_wp2_with fail
                  go_loopw [12] (fun v wr => ∃ i : Nat, i ≤ M ∧ v = .int .i64 i ∧ Below w5.heap.size w5 wr) (fun v _ => M - (intOf v).toNat)
                  case atStart => exact ⟨0, Nat.zero_le _, rfl, HBS.out⟩
                  case round =>
                    obtain ⟨i, hi, rfl, hbr⟩ := hrel
                    have HBR := Lib.hid hbr
                    clear p0 p1 p2 p3 p4 p5 p6
                    obtain ⟨hg1, hl1, hd1, he1, hn1, hW1⟩ := HTH.out wr hbr
                    obtain ⟨p0, p1, p2, p3, p4, p5, p6⟩ := hg1.cells
                    have hi0 : (0 : Int) ≤ i := by omega
                    by_cases hlt : i < M
                    · have hi1 : (i : Int) < M := by omega
                      obtain ⟨y, gb, go, hx, rfl, hcell⟩ := hn1.at_ hlt
                      have c0 := hcell 0 _ rfl
                      rw [Nat.add_zero, Nat.mul_one] at c0
                      obtain ⟨hyr, k, hcv, hkd, hk0, hk1⟩ := HNY.out y (List.mem_of_getElem? hx)
                      obtain ⟨Y, rfl, hY1⟩ := nat_of_lt hyr.1 hyr.2
                      have hY0 : (0 : Int) ≤ Y := by omega
                      have hty := HTT.out (Y : Int)
                      have HCO : Hid (Calls Try.prog 22 #[.slice B K d, .slice (some ⟨wr.heap.size, 0, none⟩) 2 2] (wr.alloc (.cells #[.int .i64 S, .int .i64 Y] 3)).drew fun e w'' => e = .returned (.tuple #[.int .i64 k, .bool true]) ∧ Below wr.heap.size wr w'') := Lib.hid (by
                        have hal := below_al1 wr (.cells #[.int .i64 (S : Int), .int .i64 (Y : Int)] 3)
                        have hq := costw_any (c := d) (d := 2) ((hl1.below hal).below (below_dN 1)) ((rd_ints wr [(S : Int), (Y : Int)]).below (below_dN 1)) HSM.out hK3 (by simp) (by simp)
                        rw [hcv] at hq
                        exact hq.mono fun e w'' (he : e = _ ∧ Below _ _ w'') => ⟨he.1, below_step (below_step hal (below_dN 1)) he.2⟩)
                      have HKP := Lib.hid (fun w' (h : Below wr.heap.size wr w') => show Below wr.heap.size wr w' ∧ w'.cell? ⟨bx, 2, none⟩ = some (.int .i64 S) ∧ w'.cell? ⟨gb, go + i, none⟩ = some (.int .i64 Y) from ⟨h, (h.cell (p := ⟨bx, 2, none⟩) p0).trans p3, (h.cell (World.block_lt_of_cell? wr _ c0)).trans c0⟩)
                      have HCA := Lib.hid (fun w' (h : Below wr.heap.size wr w') => show w'.cell? ⟨x2, Y, none⟩ = some (.int .i64 (D R T Y)) ∧ w'.cell? ⟨x1, T, none⟩ = some (.int .i64 (D R S T)) ∧ w'.cell? ⟨bx, 3, none⟩ = some (.int .i64 T) ∧ w'.cell? ⟨gb, go + i, none⟩ = some (.int .i64 Y) from
                        ⟨(he1.below h) Y (by omega), (hd1.below h) T (by omega), (h.cell (p := ⟨bx, 3, none⟩) p0).trans p4, (h.cell (World.block_lt_of_cell? wr _ c0)).trans c0⟩)
                      generalize D R (T : Int) Y = ty at hkd hty HCA
                      have HDE := Lib.hid (show D R (S : Int) T = k + ty from hkd.symm)
                      rw [HDE.out] at HCA
                      have hw : IntKind.i64.wrap (k + ty) = k + ty := IntWalk.i64_in _ (by omega)
                      have g1 : (k + ty != k + ty) = false := by simp
                      clear hg1 hl1 hd1 he1 hn1 hW1 hx hcell hcv hkd hbr
                      go_upto_region 24 with fail
                      go_region_held3 (fun w' => Below wr.heap.size wr w' ∧ w'.cell? ⟨bx, 2, none⟩ = some (.int .i64 S) ∧ w'.cell? ⟨gb, go + i, none⟩ = some (.int .i64 Y))
                        (first | assumption | exact HKP.out _ (by assumption) | exact HKP.out _ (Below.refl _ _).drew | exact HKP.out _ (below_al1 _ _).drew)
                        (first
                          | (go_at_call 22; (with_reducible refine (HCO.out).mono ?_); rintro e wA ⟨rfl, hchA⟩))
                      have HCH := Lib.hid hchA
                      clear p0 p1 p2 p3 p4 p5 p6 c0
                      obtain ⟨r1, r2, r3, r4⟩ := HCA.out _ hchA
                      clear hchA
                      go_wp2_with fail
                      go_quiet (fail)
                      go_wp2_with fail
                      go_roundw
                      case rel => exact ⟨i + 1, by omega, by go_num, HBR.out.trans ((HCH.out.trans ((below_dN _).mono HCH.out.size)).mono HBR.out.size)⟩
                      case measure => simp [intOf]; omega
                    · obtain rfl : i = M := by omega
                      have hge : ¬ (i : Int) < i := by omega
                      have r1 := hd1 T (by omega)
                      have r2 := he1 S (by omega)
                      have HFW := Lib.hid hW1
                      rw [← hsym] at r2
                      generalize D R (S : Int) T = ds at r1 r2 HNZ
                      have g1 : (ds == ds) = true := by simp
                      clear hg1 hl1 hd1 he1 hn1 hW1 hbr hsym
                      by_cases hz : i = 0
                      · have g2 : ((i : Int) == 0) = true := by simp [hz]
                        have g3 : decide (ds ≤ 0) = true := decide_eq_true (HNZ.out.1 hz)
                        clear hz
                        go_wp2_with fail
                        go_quiet (fail)
                        go_wp2_with fail
                        go_ret
                        exact ⟨rfl, HFW.out.trans ((below_dN _).mono HFW.out.size)⟩
                      · have g2 : ((i : Int) == 0) = false := by simp [hz]
                        have g3 : decide (ds ≤ 0) = false := decide_eq_false (fun h => hz (HNZ.out.2 h))
                        clear hz
                        go_wp2_with fail
                        go_quiet (fail)
                        go_wp2_with fail
                        go_ret
                        exact ⟨rfl, HFW.out.trans ((below_dN _).mono HFW.out.size)⟩
      · have d1 : decide ((i : Int) < m) = false := decide_eq_false (by omega)
        have d3 : decide (i < m) = false := decide_eq_false (by omega)
        have d5 : ¬ (i : Int) < m := by omega
        clear hgo
        obtain ⟨B, d, rfl, hrd⟩ := hown.rd
        have HL5 := Lib.hid hrd
        have HBG5 := Lib.hid (HBG1.out.below hbr)
        have HW5 := Lib.hid (HW1.out.trans (hbr.mono HW1.out.size))
        have hK30 : R.length ≤ 30 := by omega
        clear hrd hown hbr hsy HO HB HBG1 HW1 HL1 HB0 hlen
        generalize R.length = K at HL5 hK30 ⊢
        have hK3 : K ≤ 1000 := by omega
        have HCK := Lib.hid (check_any (c := d) HL5.out n hK3)
        have HG := Lib.hid (fun h : chkG n R = 0 => (chkG_ok (n := n) (l := R)).1 h)
        generalize chkG n R = ck at HCK HG
        go_wp2_with fail
        refine (HCK.out).mono ?_
        rintro e w2 ⟨rfl, hb2⟩
        have HBG2 := Lib.hid (HBG5.out.below hb2)
        have HW2 := Lib.hid (HW5.out.trans (hb2.mono HW5.out.size))
        have HL2 := Lib.hid (HL5.out.below hb2)
        clear p0 p1 p2 p3 p4 p5 p6 HBG5 HW5 HL5 HCK hb2
        obtain ⟨p0, p1, p2, p3, p4, p5, p6⟩ := HBG2.out.cells
        by_cases hck : ¬ ck = 0
        · have hckb : (ck != 0) = true := by simpa using hck
          go_wp2_with fail
          go_ret
          exact ⟨rfl, by have := HBX.out; subst this; exact HW2.out⟩
        · have hckb : (ck != 0) = false := by simpa using hck
          by_cases hs0 : s < 0
          · have hs0b : (decide (s < 0)) = true := by simpa using hs0
            go_wp2_with fail
            go_ret
            exact ⟨rfl, by have := HBX.out; subst this; exact HW2.out⟩
          · have hs0b : (decide (s < 0)) = false := by simpa using hs0
            by_cases hs1 : s ≥ n
            · have hs1b : (decide (s ≥ n)) = true := by simpa using hs1
              go_wp2_with fail
              go_ret
              exact ⟨rfl, by have := HBX.out; subst this; exact HW2.out⟩
            · have hs1b : (decide (s ≥ n)) = false := by simpa using hs1
              by_cases ht0 : t < 0
              · have ht0b : (decide (t < 0)) = true := by simpa using ht0
                go_wp2_with fail
                go_ret
                exact ⟨rfl, by have := HBX.out; subst this; exact HW2.out⟩
              · have ht0b : (decide (t < 0)) = false := by simpa using ht0
                by_cases ht1 : t ≥ n
                · have ht1b : (decide (t ≥ n)) = true := by simpa using ht1
                  go_wp2_with fail
                  go_ret
                  exact ⟨rfl, by have := HBX.out; subst this; exact HW2.out⟩
                · have ht1b : (decide (t ≥ n)) = false := by simpa using ht1
                  have hg := HG.out (by simpa using hck)
                  have HGK := Lib.hid hg
                  have hn64 := hg.n64
                  obtain ⟨N, hN⟩ : ∃ N : Nat, n = N := ⟨n.toNat, by omega⟩
                  subst hN
                  obtain ⟨S, rfl, hS1⟩ := nat_of_lt (n := (N : Int)) (v := s) (by omega) (by omega)
                  obtain ⟨T, rfl, hT1⟩ := nat_of_lt (n := (N : Int)) (v := t) (by omega) (by omega)
                  have hRS := rightG_in hg (x := (S : Int)) ⟨by omega, hS1⟩
                  have hRT := rightG_in hg (x := (T : Int)) ⟨by omega, hT1⟩
                  have hsym := D_sym hg.pos HSY.out (S : Int) T
                  have hb1 := And.intro (D_ge hg.pos (S : Int) T) (D_top (l := R) hg (a := (S : Int)) (t := T) ⟨by omega, hS1⟩)
                  have htt := fun y : Int => And.intro (D_ge hg.pos (T : Int) y) (D_top (l := R) hg (a := (T : Int)) (t := y) ⟨by omega, hT1⟩)
                  obtain ⟨hln, hny, hnz⟩ := next_law hg HSY.out (s := (S : Int)) (t := (T : Int)) ⟨by omega, hS1⟩ ⟨by omega, hT1⟩
                  have HTT := Lib.hid htt
                  have HNY := Lib.hid hny
                  have HNZ := Lib.hid hnz
                  have HSM := Lib.hid (small_ok hg)
                  have HRS := Lib.hid hRS
                  have HRT := Lib.hid hRT
                  have HDI := Lib.hid (Dist_any (c := d) HL2.out N S hK3)
                  clear hg hRS hRT HG htt hny hnz
                  go_wp2_with fail
                  refine (HDI.out).mono ?_
                  rintro e w3 hgi
                  unfold GivesD at hgi
                  rw [if_pos HRS.out, Int.toNat_natCast] at hgi
                  obtain ⟨x1, rfl, hrow, hb⟩ := hgi
                  have HBG3 := Lib.hid (HBG2.out.below hb)
                  have HW3 := Lib.hid (HW2.out.trans (hb.mono HW2.out.size))
                  have HL3 := Lib.hid (HL2.out.below hb)
                  clear p0 p1 p2 p3 p4 p5 p6 HBG2 HW2 HL2
                  obtain ⟨p0, p1, p2, p3, p4, p5, p6⟩ := HBG3.out.cells
                  have HD3 := Lib.hid hrow.rowL
                  have HDJ := Lib.hid (Dist_any (c := d) HL3.out N T hK3)
                  clear hb hrow HDI
                  go_wp2_with fail
                  refine (HDJ.out).mono ?_
                  rintro e w4 hgi
                  unfold GivesD at hgi
                  rw [if_pos HRT.out, Int.toNat_natCast] at hgi
                  obtain ⟨x2, rfl, hrow, hb⟩ := hgi
                  have HBG4 := Lib.hid (HBG3.out.below hb)
                  have HW4 := Lib.hid (HW3.out.trans (hb.mono HW3.out.size))
                  have HL4 := Lib.hid (HL3.out.below hb)
                  clear p0 p1 p2 p3 p4 p5 p6 HBG3 HW3 HL3
                  obtain ⟨p0, p1, p2, p3, p4, p5, p6⟩ := HBG4.out.cells
                  have HD4 := Lib.hid (HD3.out.below hb)
                  have HE4 := Lib.hid hrow.rowL
                  have HNX := Lib.hid (Next_any (c := d) HL4.out N S T hK3)
                  clear hb hrow HDJ HD3
                  go_wp2_with fail
                  refine (HNX.out).mono ?_
                  rintro e w5 ⟨v, rfl, hnx, hb⟩
                  obtain ⟨NG, nc, rfl, hnc, hrn⟩ := hnx.rdc
                  have HBG5 := Lib.hid (HBG4.out.below hb)
                  have HW5 := Lib.hid (HW4.out.trans (hb.mono HW4.out.size))
                  have HL5 := Lib.hid (HL4.out.below hb)
                  clear p0 p1 p2 p3 p4 p5 p6 HBG4 HW4 HL4
                  obtain ⟨p0, p1, p2, p3, p4, p5, p6⟩ := HBG5.out.cells
                  have HD5 := Lib.hid (HD4.out.below hb)
                  have HE5 := Lib.hid (HE4.out.below hb)
                  have HN5 := Lib.hid hrn
                  clear hb hnx hrn HNX HD4 HE4
                  generalize nextsU N R S T = xs at HNY HNZ HN5 hln hnc ⊢
                  generalize hM : xs.length = M at HNZ HN5 hln hnc ⊢
                  clear hM
                  have HTH : Hid (∀ w', Below w5.heap.size w5 w' → BoxG w' bx N A m c S T a b ∧ Rd lkc 3 w' B K R ∧ RowL w' x1 N (D R S) ∧ RowL w' x2 N (D R T) ∧ Rd intc 1 w' NG M xs ∧ Below W.heap.size W w') := Lib.hid (fun w' h => ⟨HBG5.out.below h, HL5.out.below h, HD5.out.below h, HE5.out.below h, HN5.out.below h, HW5.out.trans (h.mono HW5.out.size)⟩)
                  have HBS := Lib.hid (Below.refl w5.heap.size w5)
                  have hT0 : (0 : Int) ≤ T := by omega
                  have hS0 : (0 : Int) ≤ S := by omega
                  clear HBG5 HL5 HD5 HE5 HN5 HW5
                  go_wp2_with fail
                  go_loopw [12] (fun v wr => ∃ i : Nat, i ≤ M ∧ v = .int .i64 i ∧ Below w5.heap.size w5 wr) (fun v _ => M - (intOf v).toNat)
                  case atStart => exact ⟨0, Nat.zero_le _, rfl, HBS.out⟩
                  case round =>
                    obtain ⟨i, hi, rfl, hbr⟩ := hrel
                    have HBR := Lib.hid hbr
                    clear p0 p1 p2 p3 p4 p5 p6
                    obtain ⟨hg1, hl1, hd1, he1, hn1, hW1⟩ := HTH.out wr hbr
                    obtain ⟨p0, p1, p2, p3, p4, p5, p6⟩ := hg1.cells
                    have hi0 : (0 : Int) ≤ i := by omega
                    by_cases hlt : i < M
                    · have hi1 : (i : Int) < M := by omega
                      obtain ⟨y, gb, go, hx, rfl, hcell⟩ := hn1.at_ hlt
                      have c0 := hcell 0 _ rfl
                      rw [Nat.add_zero, Nat.mul_one] at c0
                      obtain ⟨hyr, k, hcv, hkd, hk0, hk1⟩ := HNY.out y (List.mem_of_getElem? hx)
                      obtain ⟨Y, rfl, hY1⟩ := nat_of_lt hyr.1 hyr.2
                      have hY0 : (0 : Int) ≤ Y := by omega
                      have hty := HTT.out (Y : Int)
                      have HCO : Hid (Calls Try.prog 22 #[.slice B K d, .slice (some ⟨wr.heap.size, 0, none⟩) 2 2] (wr.alloc (.cells #[.int .i64 S, .int .i64 Y] 3)).drew fun e w'' => e = .returned (.tuple #[.int .i64 k, .bool true]) ∧ Below wr.heap.size wr w'') := Lib.hid (by
                        have hal := below_al1 wr (.cells #[.int .i64 (S : Int), .int .i64 (Y : Int)] 3)
                        have hq := costw_any (c := d) (d := 2) ((hl1.below hal).below (below_dN 1)) ((rd_ints wr [(S : Int), (Y : Int)]).below (below_dN 1)) HSM.out hK3 (by simp) (by simp)
                        rw [hcv] at hq
                        exact hq.mono fun e w'' (he : e = _ ∧ Below _ _ w'') => ⟨he.1, below_step (below_step hal (below_dN 1)) he.2⟩)
                      have HKP := Lib.hid (fun w' (h : Below wr.heap.size wr w') => show Below wr.heap.size wr w' ∧ w'.cell? ⟨bx, 2, none⟩ = some (.int .i64 S) ∧ w'.cell? ⟨gb, go + i, none⟩ = some (.int .i64 Y) from ⟨h, (h.cell (p := ⟨bx, 2, none⟩) p0).trans p3, (h.cell (World.block_lt_of_cell? wr _ c0)).trans c0⟩)
                      have HCA := Lib.hid (fun w' (h : Below wr.heap.size wr w') => show w'.cell? ⟨x2, Y, none⟩ = some (.int .i64 (D R T Y)) ∧ w'.cell? ⟨x1, T, none⟩ = some (.int .i64 (D R S T)) ∧ w'.cell? ⟨bx, 3, none⟩ = some (.int .i64 T) ∧ w'.cell? ⟨gb, go + i, none⟩ = some (.int .i64 Y) from
                        ⟨(he1.below h) Y (by omega), (hd1.below h) T (by omega), (h.cell (p := ⟨bx, 3, none⟩) p0).trans p4, (h.cell (World.block_lt_of_cell? wr _ c0)).trans c0⟩)
                      generalize D R (T : Int) Y = ty at hkd hty HCA
                      have HDE := Lib.hid (show D R (S : Int) T = k + ty from hkd.symm)
                      rw [HDE.out] at HCA
                      have hw : IntKind.i64.wrap (k + ty) = k + ty := IntWalk.i64_in _ (by omega)
                      have g1 : (k + ty != k + ty) = false := by simp
                      clear hg1 hl1 hd1 he1 hn1 hW1 hx hcell hcv hkd hbr
                      go_upto_region 24 with fail
                      go_region_held3 (fun w' => Below wr.heap.size wr w' ∧ w'.cell? ⟨bx, 2, none⟩ = some (.int .i64 S) ∧ w'.cell? ⟨gb, go + i, none⟩ = some (.int .i64 Y))
                        (first | assumption | exact HKP.out _ (by assumption) | exact HKP.out _ (Below.refl _ _).drew | exact HKP.out _ (below_al1 _ _).drew)
                        (first
                          | (go_at_call 22; (with_reducible refine (HCO.out).mono ?_); rintro e wA ⟨rfl, hchA⟩))
                      have HCH := Lib.hid hchA
                      clear p0 p1 p2 p3 p4 p5 p6 c0
                      obtain ⟨r1, r2, r3, r4⟩ := HCA.out _ hchA
                      clear hchA
                      go_wp2_with fail
                      go_quiet (fail)
                      go_wp2_with fail
                      go_roundw
                      case rel => exact ⟨i + 1, by omega, by go_num, HBR.out.trans ((HCH.out.trans ((below_dN _).mono HCH.out.size)).mono HBR.out.size)⟩
                      case measure => simp [intOf]; omega
                    · obtain rfl : i = M := by omega
                      have hge : ¬ (i : Int) < i := by omega
                      have r1 := hd1 T (by omega)
                      have r2 := he1 S (by omega)
                      have HFW := Lib.hid hW1
                      rw [← hsym] at r2
                      generalize D R (S : Int) T = ds at r1 r2 HNZ
                      have g1 : (ds == ds) = true := by simp
                      clear hg1 hl1 hd1 he1 hn1 hW1 hbr hsym
                      by_cases hz : i = 0
                      · have g2 : ((i : Int) == 0) = true := by simp [hz]
                        have g3 : decide (ds ≤ 0) = true := decide_eq_true (HNZ.out.1 hz)
                        clear hz
                        go_wp2_with fail
                        go_quiet (fail)
                        go_wp2_with fail
                        go_ret
                        exact ⟨rfl, HFW.out.trans ((below_dN _).mono HFW.out.size)⟩
                      · have g2 : ((i : Int) == 0) = false := by simp [hz]
                        have g3 : decide (ds ≤ 0) = false := decide_eq_false (fun h => hz (HNZ.out.2 h))
                        clear hz
                        go_wp2_with fail
                        go_quiet (fail)
                        go_wp2_with fail
                        go_ret
                        exact ⟨rfl, HFW.out.trans ((below_dN _).mono HFW.out.size)⟩
end Go.Proofs.Ytmdcfiejkbhgpaa
