/-
  The laws' example of repair: a ring of four. No program in sight.
-/
import Derived.Test.YtmdcfiejkbhgpaaRepB
import Derived.Test.YtmdcfiejkbhgpaaCert
import Derived.Test.YtmdcfiejkbhgpaaAwake
import Derived.Test.YtmdcfiejkbhgpaaRepD
import Derived.Test.YtmdcfiejkbhgpaaRepC
namespace Go.Proofs.Ytmdcfiejkbhgpaa

/-- whether one comes to the other as ever, by a table -/
def cleanC (l : List Lk) (F : Int → Int → Int) (s e a b : Int) : Bool := decide (0 ≤ F a b) && !usesC l F a b s e && !usesC l F a b e s
theorem clean_cert {n : Int} {l : List Lk} (hg : GOk n l) {F : Int → Int → Int} (hb : certs n l F = true) {s e a b : Int} (hs : 0 ≤ s ∧ s < n) (he : 0 ≤ e ∧ e < n) (ha : 0 ≤ a ∧ a < n) (hbb : 0 ≤ b ∧ b < n) : cleanV n l s e a b = cleanC l F s e a b := by
  unfold cleanV cleanC
  rw [uses_cert hg hb ha hbb hs he, uses_cert hg hb ha hbb he hs, D_certs hg hb ha hbb]
theorem stepsL_congr {cl cl' : Int → Int → Bool} {way : List Int} {d : Int} (h1 : ∀ i j, cl (wAt way i) (wAt way j) = cl' (wAt way i) (wAt way j)) (h2 : ∀ i, cl (wAt way i) d = cl' (wAt way i) d) : ∀ f i, stepsL cl way d f i = stepsL cl' way d f i
  | 0, _ => rfl
  | f + 1, i => by
    have e : hopK cl way i = hopK cl' way i := by
      unfold hopK lastK
      simp only [h1]
    unfold stepsL
    rw [h2, e, stepsL_congr h1 h2 f]
/-- the ring -/
def r0 : List Lk := [⟨0, 1, 1⟩, ⟨1, 0, 1⟩, ⟨1, 2, 1⟩, ⟨2, 1, 1⟩, ⟨2, 3, 1⟩, ⟨3, 2, 1⟩, ⟨3, 0, 1⟩, ⟨0, 3, 1⟩]
def R0 (s v : Int) : Int := ([[0, 1, 2, 1], [1, 0, 1, 2], [2, 1, 0, 1], [1, 2, 1, 0]].getD s.toNat []).getD v.toNat (-1)
/-- and without the link of 0 and 1 -/
def R1 (s v : Int) : Int := ([[0, 3, 2, 1], [3, 0, 1, 2], [2, 1, 0, 1], [1, 2, 1, 0]].getD s.toNat []).getD v.toNat (-1)
theorem gr0 : GOk 4 r0 := chkG_ok.1 (by decide +kernel)
theorem cr0 : certs 4 r0 R0 = true := by decide +kernel
theorem cr1 : certs 4 (withoutG r0 0 1) R1 = true := by decide +kernel
theorem gr1 : GOk 4 (withoutG r0 0 1) := without_ok gr0 0 1
theorem rafter : afterV 4 r0 0 1 1 = [0, 3, 2, 1] := by
  rw [after_in gr0 (by decide) (by decide) (by decide), pathL_cert gr1 cr1 (by decide) (by decide)]
  decide +kernel
theorem way_range (i : Nat) : 0 ≤ wAt [0, 3, 2, 1] i ∧ wAt [0, 3, 2, 1] i < 4 := by
  match i with
  | 0 => decide
  | 1 => decide
  | 2 => decide
  | 3 => decide
  | i + 4 => exact ⟨by show (0 : Int) ≤ ([] : List Int).getD i 0; simp, by show ([] : List Int).getD i 0 < (4 : Int); simp⟩
theorem rsteps : stepsR 4 r0 0 1 1 = [⟨false, 0, 3⟩, ⟨false, 3, 2⟩] := by
  unfold stepsR
  rw [rafter, if_neg (by simp)]
  unfold stepsV
  rw [stepsL_congr (cl' := cleanC r0 R0 0 1) (fun i j => clean_cert gr0 cr0 (by decide) (by decide) (way_range i) (way_range j)) (fun i => clean_cert gr0 cr0 (by decide) (by decide) (way_range i) (by decide))]
  decide +kernel
theorem rnear : nearV 4 r0 0 1 = [true, false, false, true] := by
  unfold nearV
  rw [if_pos (by rw [rightG_in gr0 (by decide), rightG_in gr0 (by decide)]; rfl)]
  have e : (nodes 4).map (cleanV 4 r0 0 1 0) = (nodes 4).map (cleanC r0 R0 0 1 0) := List.map_congr_left fun v hv => clean_cert gr0 cr0 (by decide) (by decide) (by decide) (mem_nodes.1 hv)
  rw [e]
  decide +kernel
theorem rfar : farV 4 r0 0 1 1 = [false, true, true, false] := by
  unfold farV
  rw [if_pos (by rw [rightG_in gr0 (by decide), rightG_in gr0 (by decide)]; rfl)]
  have e : (nodes 4).map (fun x => cleanV 4 r0 0 1 x 1) = (nodes 4).map (fun x => cleanC r0 R0 0 1 x 1) := List.map_congr_left fun v hv => clean_cert gr0 cr0 (by decide) (by decide) (mem_nodes.1 hv) (by decide)
  rw [e]
  decide +kernel
theorem rp03 : pathG 4 r0 0 3 = [0, 3] := by
  unfold pathG
  rw [if_pos (by rw [rightG_in gr0 (by decide), rightG_in gr0 (by decide)]; simp), pathL_cert gr0 cr0 (by decide) (by decide)]
  decide +kernel
theorem rp32 : pathG 4 r0 3 2 = [3, 2] := by
  unfold pathG
  rw [if_pos (by rw [rightG_in gr0 (by decide), rightG_in gr0 (by decide)]; simp), pathL_cert gr0 cr0 (by decide) (by decide)]
  decide +kernel
theorem rp21 : pathG 4 r0 2 1 = [2, 1] := by
  unfold pathG
  rw [if_pos (by rw [rightG_in gr0 (by decide), rightG_in gr0 (by decide)]; simp), pathL_cert gr0 cr0 (by decide) (by decide)]
  decide +kernel
theorem rwalk0 : walkV 4 r0 0 1 [⟨false, 0, 3⟩, ⟨false, 3, 2⟩] = [0, 3, 2, 1] := by
  have a : wayS 4 r0 ⟨false, 0, 3⟩ = [0, 3] := by unfold wayS; simpa using rp03
  have b : wayS 4 r0 ⟨false, 3, 2⟩ = [3, 2] := by unfold wayS; simpa using rp32
  have c : wayS 4 r0 ⟨false, 2, 1⟩ = [2, 1] := by unfold wayS; simpa using rp21
  have a1 : okS 4 r0 ⟨false, 0, 3⟩ = true := by unfold okS; rw [a]; decide +kernel
  have b1 : okS 4 r0 ⟨false, 3, 2⟩ = true := by unfold okS; rw [b]; decide +kernel
  have c1 : okS 4 r0 ⟨false, 2, 1⟩ = true := by unfold okS; rw [c]; decide +kernel
  have hw : walkT 4 r0 0 [⟨false, 0, 3⟩, ⟨false, 3, 2⟩] = some ([0, 3, 2], 2) := by
    unfold walkT walkF
    rw [stepW_ok a1 rfl, a]
    show walkF 4 r0 _ _ = _
    unfold walkF
    rw [stepW_ok b1 rfl, b]
    rfl
  unfold walkV walkO
  rw [if_pos (by rw [rightG_in gr0 (by decide), rightG_in gr0 (by decide)]; rfl), hw]
  show (match stepW 4 r0 ([0, 3, 2], 2) ⟨false, 2, 1⟩ with | some z => z.1 | none => []) = _
  rw [stepW_ok c1 rfl, c]
  rfl
end Go.Proofs.Ytmdcfiejkbhgpaa
/-
  awake of the laws of repair.
-/
namespace Go.Proofs.Ytmdcfiejkbhgpaa
open Go.RowKit

/-- two links put behind a row of the call's own -/
theorem app_link2 {ops : Array Oper} {rest : List Oper} {o : Oper} {a : Act} {w : World} {Q : Exit → Act → World → Prop} (hgd : o.guard = none) (s x : Operand)
    (ho : o.op = .call { callee := .builtin .append, args := #[s, x], argTypes := #[22, 22] })
    (B : Nat) (v : Value) (l : List Lk) (z y : Lk) (hs : a.eval s = v) (hown : LksAt w B v l) (b : Nat) (hx : a.eval x = .slice (some ⟨b, 0, none⟩) 2 2) (hr : ∀ j u, (lkc z ++ lkc y)[j]? = some u → w.cell? ((⟨b, 0, none⟩ : Addr).add j) = some u)
    (hsz : l.length ≤ 1000000) (hB : B ≤ w.heap.size)
    (h : ∀ v' w', LksAt w' B v' (l ++ [z, y]) → w.grownBy w' v.ownBlock → wpList Try.prog ops Q rest (a.put o.dst v') w') : wpList Try.prog ops Q (o :: rest) a w := by
  obtain ⟨i0, hi, hz0, hz1, hz2⟩ := info_parts Try.info_link
  refine wpList_append_own_at w hgd s x 22 ho B 34 i0 (.agg #[.int .i64 0, .int .i64 0, .int .i64 0]) 3 24 Try.underlying22 hi hz0 hz1 hz2 rfl (by decide) v _ _ hs hown ⟨b, 0, none⟩ 2 2 (lkc z ++ lkc y) hx rfl hr (by
    intro u hu
    rcases List.mem_append.1 hu with h1 | h1
    · exact lkc_one z u h1
    · exact lkc_one y u h1) (by unfold maxLen; omega) (by omega) hB ?_
  intro v' w' hown' hg _ _
  refine h v' w' ?_ hg
  unfold LksAt
  rw [flatE_append, List.length_append]
  have e : flatE lkc [z, y] = lkc z ++ lkc y := by simp [flatE]
  rw [e]
  exact hown'
theorem two_links (w : World) (z y : Lk) (t : TypeId) : ∀ j u, (lkc z ++ lkc y)[j]? = some u → (w.alloc (.cells #[.int .i64 z.f, .int .i64 z.t, .int .i64 z.c, .int .i64 y.f, .int .i64 y.t, .int .i64 y.c] t)).cell? ((⟨w.heap.size, 0, none⟩ : Addr).add j) = some u := new_cells w (lkc z ++ lkc y) t
theorem rd_bools (w : World) (l : List Bool) : Rd boc 1 (w.alloc (.cells (flatE boc l).toArray 4)) (some ⟨w.heap.size, 0, none⟩) l.length l := by
  refine ⟨rfl, fun i x hx => ⟨w.heap.size, 0, rfl, fun j u hu => ?_⟩⟩
  have hj : j < 1 := by have := (List.getElem?_eq_some_iff.1 hu).1; rwa [boc_len] at this
  have h1 := flatE_at boc_len hx hj
  have h2 := new_cells w (flatE boc l) 4 (i * 1 + j) u (by rw [h1]; exact hu)
  have hadd : (⟨w.heap.size, 0, none⟩ : Addr).add (i * 1 + j) = ⟨w.heap.size, i * 1 + j, none⟩ := by unfold Addr.add; split <;> simp_all
  rw [hadd] at h2
  rwa [show 0 + i * 1 + j = i * 1 + j by omega]
theorem rd_sts (w : World) (l : List St) (t : TypeId) : Rd stc 3 (w.alloc (.cells (flatE stc l).toArray t)) (some ⟨w.heap.size, 0, none⟩) l.length l := by
  refine ⟨rfl, fun i x hx => ⟨w.heap.size, 0, rfl, fun j u hu => ?_⟩⟩
  have hj : j < 3 := by have := (List.getElem?_eq_some_iff.1 hu).1; rwa [stc_len] at this
  have h1 := flatE_at stc_len hx hj
  have h2 := new_cells w (flatE stc l) t (i * 3 + j) u (by rw [h1]; exact hu)
  have hadd : (⟨w.heap.size, 0, none⟩ : Addr).add (i * 3 + j) = ⟨w.heap.size, i * 3 + j, none⟩ := by unfold Addr.add; split <;> simp_all
  rw [hadd] at h2
  rwa [show 0 + i * 3 + j = i * 3 + j by omega]

set_option maxRecDepth 100000 in
set_option maxHeartbeats 8000000 in
theorem awaker_any (w : World) : Calls Try.prog 29 #[] w fun e w' => e = .returned (.bool true) ∧ Below w.heap.size w w' := by
  have hbw : Below w.heap.size w w := Below.refl _ _
  go_enter Try.func29, Try.ntmps29
  go_wp2_with fail
  go_loopw [1, 2] (fun o v wr => ∃ k : Nat, k ≤ 4 ∧ v = .int .i64 k ∧ LksAt wr w.heap.size o (r0.take (2 * k)) ∧ Below w.heap.size w wr) (fun _ v _ => 4 - (intOf v).toNat)
  case atStart => exact ⟨0, by decide, rfl, lksAt_nil _ _, hbw⟩
  case round =>
    obtain ⟨k, hk, rfl, hown, hbr⟩ := hrel
    have HO := Lib.hid hown
    have HB := Lib.hid hbr
    clear hown hbr hbw
    rcases (show k = 0 ∨ k = 1 ∨ k = 2 ∨ k = 3 ∨ k = 4 by omega) with rfl | rfl | rfl | rfl | rfl
    · go_wp2_with (at_builtin; refine app_link2 rfl (.tmp 13) (.tmp 20) rfl w.heap.size _ _ ⟨0, 1, 1⟩ ⟨1, 0, 1⟩ rfl (HO.out.below (below_al1 _ _)) wr.heap.size rfl (two_links _ _ _ _) (by simp [r0]) (HB.out.alloc HB.out.size _).size ?_; intro v2 w3 hown2 hg2; have HO2 := Lib.hid hown2; have HB3 := Lib.hid (lksAt_app (HB.out.alloc HB.out.size _) (HO.out.below (below_al1 _ _)) hg2); clear hown2 hg2)
      go_roundw
      case rel => exact ⟨1, by decide, rfl, HO2.out, HB3.out⟩
      case measure => simp [intOf]
    · go_wp2_with (at_builtin; refine app_link2 rfl (.tmp 13) (.tmp 20) rfl w.heap.size _ _ ⟨1, 2, 1⟩ ⟨2, 1, 1⟩ rfl (HO.out.below (below_al1 _ _)) wr.heap.size rfl (two_links _ _ _ _) (by simp [r0]) (HB.out.alloc HB.out.size _).size ?_; intro v2 w3 hown2 hg2; have HO2 := Lib.hid hown2; have HB3 := Lib.hid (lksAt_app (HB.out.alloc HB.out.size _) (HO.out.below (below_al1 _ _)) hg2); clear hown2 hg2)
      go_roundw
      case rel => exact ⟨2, by decide, rfl, HO2.out, HB3.out⟩
      case measure => simp [intOf]
    · go_wp2_with (at_builtin; refine app_link2 rfl (.tmp 13) (.tmp 20) rfl w.heap.size _ _ ⟨2, 3, 1⟩ ⟨3, 2, 1⟩ rfl (HO.out.below (below_al1 _ _)) wr.heap.size rfl (two_links _ _ _ _) (by simp [r0]) (HB.out.alloc HB.out.size _).size ?_; intro v2 w3 hown2 hg2; have HO2 := Lib.hid hown2; have HB3 := Lib.hid (lksAt_app (HB.out.alloc HB.out.size _) (HO.out.below (below_al1 _ _)) hg2); clear hown2 hg2)
      go_roundw
      case rel => exact ⟨3, by decide, rfl, HO2.out, HB3.out⟩
      case measure => simp [intOf]
    · go_wp2_with (at_builtin; refine app_link2 rfl (.tmp 13) (.tmp 20) rfl w.heap.size _ _ ⟨3, 0, 1⟩ ⟨0, 3, 1⟩ rfl (HO.out.below (below_al1 _ _)) wr.heap.size rfl (two_links _ _ _ _) (by simp [r0]) (HB.out.alloc HB.out.size _).size ?_; intro v2 w3 hown2 hg2; have HO2 := Lib.hid hown2; have HB3 := Lib.hid (lksAt_app (HB.out.alloc HB.out.size _) (HO.out.below (below_al1 _ _)) hg2); clear hown2 hg2)
      go_roundw
      case rel => exact ⟨4, by decide, rfl, HO2.out, HB3.out⟩
      case measure => simp [intOf]
    · obtain ⟨A, c, rfl, hrd⟩ := HO.out.rd
      have HL := Lib.hid (show Rd lkc 3 wr A 8 r0 from hrd)
      clear hrd HO
      simp only [show (List.take (2 * 4) r0).length = 8 from rfl]
      go_wp2_with fail
      have hq := steps_any (c := c) HL.out 4 0 1 1 (by decide)
      rw [rafter, rsteps, show decide (([0, 3, 2, 1] : List Int) ≠ []) = true by decide] at hq
      refine hq.mono ?_
      rintro e w1 ⟨v, rfl, hv, hb⟩
      obtain ⟨A1, c1, rfl, hr1⟩ := hv.rd
      have HS1 := Lib.hid hr1
      have HW1 := Lib.hid (HB.out.trans (hb.mono HB.out.size))
      have HL1 := Lib.hid (HL.out.below hb)
      clear hq hv hb hr1 HB HL
      simp only [List.length_cons, List.length_nil, Nat.zero_add, Nat.reduceAdd]
      go_wp2_with fail
      have hq := plain_any (c := c1) HS1.out (by decide)
      refine hq.mono ?_
      rintro e w2 ⟨v, rfl, hv, hb⟩
      obtain ⟨A2, c2, rfl, hr2⟩ := hv.rd
      have HS2 := Lib.hid hr2
      have HX2 := Lib.hid (HS1.out.below hb)
      have HW2 := Lib.hid (HW1.out.trans (hb.mono HW1.out.size))
      have HL2 := Lib.hid (HL1.out.below hb)
      clear hq hv hb hr2 HW1 HL1 HS1
      simp only [List.length_cons, List.length_nil, Nat.zero_add, Nat.reduceAdd]
      go_wp2_with fail
      have hb1 := below_al1 w2 (.cells (flatE stc [⟨false, 0, 3⟩, ⟨false, 3, 2⟩]).toArray 72)
      have hq := same28_any (c := c2) (d := 2) (HS2.out.below hb1) (rd_sts w2 [⟨false, 0, 3⟩, ⟨false, 3, 2⟩] 72) (by decide) (by decide)
      rw [show decide (([⟨false, 0, 3⟩, ⟨false, 3, 2⟩] : List St) = [⟨false, 0, 3⟩, ⟨false, 3, 2⟩]) = true by decide] at hq
      refine hq.mono ?_
      rintro e w3 ⟨rfl, hb2⟩
      have hb := hb1.trans (hb2.mono hb1.size)
      have HX3 := Lib.hid (HX2.out.below hb)
      have HW3 := Lib.hid (HW2.out.trans (hb.mono HW2.out.size))
      have HL3 := Lib.hid (HL2.out.below hb)
      clear hq hb hb1 hb2 HW2 HL2 HX2 HS2
      go_wp2_with fail
      have hq := walk_any (c := c) (q := c1) HL3.out 4 0 1 (by decide) HX3.out (by decide)
      rw [rwalk0] at hq
      refine hq.mono ?_
      rintro e w4 ⟨v, rfl, hv, hb⟩
      obtain ⟨A4, c4, rfl, hr4⟩ := hv.rd
      have HI4 := Lib.hid hr4
      have HW4 := Lib.hid (HW3.out.trans (hb.mono HW3.out.size))
      have HL4 := Lib.hid (HL3.out.below hb)
      clear hq hv hb hr4 HW3 HL3 HX3
      simp only [List.length_cons, List.length_nil, Nat.zero_add, Nat.reduceAdd]
      go_wp2_with fail
      have hb1 := below_al1 w4 (.cells (ints [0, 3, 2, 1]).toArray 3)
      have hq := ints_any (c := c4) (d := 4) (HI4.out.below hb1) (rd_ints w4 [0, 3, 2, 1]) (by decide) (by decide) true (by decide)
      refine hq.mono ?_
      rintro e w5 ⟨rfl, hb2⟩
      have hb := hb1.trans (hb2.mono hb1.size)
      have HW5 := Lib.hid (HW4.out.trans (hb.mono HW4.out.size))
      have HL5 := Lib.hid (HL4.out.below hb)
      clear hq hb hb1 hb2 HW4 HL4 HI4
      go_wp2_with fail
      have hq := after_any (c := c) HL5.out 4 0 1 1 (by decide)
      rw [rafter] at hq
      refine hq.mono ?_
      rintro e w6 ⟨v, rfl, hv, hb⟩
      obtain ⟨A6, c6, rfl, hr6⟩ := hv.rd
      have HI6 := Lib.hid hr6
      have HW6 := Lib.hid (HW5.out.trans (hb.mono HW5.out.size))
      have HL6 := Lib.hid (HL5.out.below hb)
      clear hq hv hb hr6 HW5 HL5
      simp only [List.length_cons, List.length_nil, Nat.zero_add, Nat.reduceAdd]
      go_wp2_with fail
      have hb1 := below_al1 w6 (.cells (ints [0, 3, 2, 1]).toArray 3)
      have hq := ints_any (c := c6) (d := 4) (HI6.out.below hb1) (rd_ints w6 [0, 3, 2, 1]) (by decide) (by decide) true (by decide)
      refine hq.mono ?_
      rintro e w7 ⟨rfl, hb2⟩
      have hb := hb1.trans (hb2.mono hb1.size)
      have HW7 := Lib.hid (HW6.out.trans (hb.mono HW6.out.size))
      have HL7 := Lib.hid (HL6.out.below hb)
      clear hq hb hb1 hb2 HW6 HL6 HI6
      go_wp2_with fail
      have hq := near_any (c := c) HL7.out 4 0 1 (by decide)
      rw [rnear] at hq
      refine hq.mono ?_
      rintro e w8 ⟨v, rfl, hv, hb⟩
      obtain ⟨A8, c8, rfl, hr8⟩ := hv.rd
      have HI8 := Lib.hid hr8
      have HW8 := Lib.hid (HW7.out.trans (hb.mono HW7.out.size))
      have HL8 := Lib.hid (HL7.out.below hb)
      clear hq hv hb hr8 HW7 HL7
      simp only [List.length_cons, List.length_nil, Nat.zero_add, Nat.reduceAdd]
      go_wp2_with fail
      have hb1 := below_al1 w8 (.cells (flatE boc [true, false, false, true]).toArray 4)
      have hq := rbools_any (c := c8) (d := 4) (HI8.out.below hb1) (rd_bools w8 [true, false, false, true]) (by decide) (by decide)
      rw [show decide (([true, false, false, true] : List Bool) = [true, false, false, true]) = true by decide] at hq
      refine hq.mono ?_
      rintro e w9 ⟨rfl, hb2⟩
      have hb := hb1.trans (hb2.mono hb1.size)
      have HW9 := Lib.hid (HW8.out.trans (hb.mono HW8.out.size))
      have HL9 := Lib.hid (HL8.out.below hb)
      clear hq hb hb1 hb2 HW8 HL8 HI8
      go_wp2_with fail
      have hq := far_any (c := c) HL9.out 4 0 1 1 (by decide)
      rw [rfar] at hq
      refine hq.mono ?_
      rintro e w10 ⟨v, rfl, hv, hb⟩
      obtain ⟨A10, c10, rfl, hr10⟩ := hv.rd
      have HI10 := Lib.hid hr10
      have HW10 := Lib.hid (HW9.out.trans (hb.mono HW9.out.size))
      clear hq hv hb hr10 HW9 HL9
      simp only [List.length_cons, List.length_nil, Nat.zero_add, Nat.reduceAdd]
      go_wp2_with fail
      have hb1 := below_al1 w10 (.cells (flatE boc [false, true, true, false]).toArray 4)
      have hq := rbools_any (c := c10) (d := 4) (HI10.out.below hb1) (rd_bools w10 [false, true, true, false]) (by decide) (by decide)
      rw [show decide (([false, true, true, false] : List Bool) = [false, true, true, false]) = true by decide] at hq
      refine hq.mono ?_
      rintro e w11 ⟨rfl, hb2⟩
      have hb := hb1.trans (hb2.mono hb1.size)
      have HW11 := Lib.hid (HW10.out.trans (hb.mono HW10.out.size))
      clear hq hb hb1 hb2 HW10 HI10
      go_wp2_with fail
      go_ret
      exact ⟨rfl, HW11.out⟩
end Go.Proofs.Ytmdcfiejkbhgpaa
