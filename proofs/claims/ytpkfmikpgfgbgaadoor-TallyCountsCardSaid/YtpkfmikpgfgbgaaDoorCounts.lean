/-
  The law TallyCounts, walked.
-/
import Derived.Test.YtpkfmikpgfgbgaaDoorAwake
import Derived.Deep.RegionWith
namespace Go.Proofs.YtpkfmikpgfgbgaaDoor
open Go.RowKit

/-- two of the program's tallies, two of the reference's -/
structure Cs (W w : World) (b1 b2 b3 b4 : Nat) (X Y V U : Nat → Int) : Prop where
  t1 : TlAt w b1 52 X
  t2 : TlAt w b2 52 Y
  t3 : TlAt w b3 31 V
  t4 : TlAt w b4 31 U
  bel : Below W.heap.size W w
  lo : W.heap.size ≤ b1 ∧ b1 < b2 ∧ b2 < b3 ∧ b3 < b4
section
variable {W w w' : World} {b1 b2 b3 b4 : Nat} {X Y V U : Nat → Int}
theorem Cs.below (h : Cs W w b1 b2 b3 b4 X Y V U) (hb : Below w.heap.size w w') : Cs W w' b1 b2 b3 b4 X Y V U :=
  ⟨h.t1.below hb, h.t2.below hb, h.t3.below hb, h.t4.below hb, h.bel.trans (hb.mono h.bel.size), h.lo⟩
theorem Cs.drew (h : Cs W w b1 b2 b3 b4 X Y V U) : Cs W w.drew b1 b2 b3 b4 X Y V U := h.below (Below.refl _ _).drew
theorem Cs.g1 (h : Cs W w b1 b2 b3 b4 X Y V U) {X' : Nat → Int} (ht : TlAt w' b1 52 X') (hg : w.grownBy w' (some b1)) : Cs W w' b1 b2 b3 b4 X' Y V U :=
  ⟨ht, h.t2.grown hg (by have := h.lo; simp; omega), h.t3.grown hg (by have := h.lo; simp; omega), h.t4.grown hg (by have := h.lo; simp; omega), h.bel.grown hg h.bel.size (fun x e => by cases e; exact h.lo.1), h.lo⟩
theorem Cs.g2 (h : Cs W w b1 b2 b3 b4 X Y V U) {X' : Nat → Int} (ht : TlAt w' b2 52 X') (hg : w.grownBy w' (some b2)) : Cs W w' b1 b2 b3 b4 X X' V U :=
  ⟨h.t1.grown hg (by have := h.lo; simp; omega), ht, h.t3.grown hg (by have := h.lo; simp; omega), h.t4.grown hg (by have := h.lo; simp; omega), h.bel.grown hg h.bel.size (fun x e => by cases e; have := h.lo; omega), h.lo⟩
theorem Cs.g3 (h : Cs W w b1 b2 b3 b4 X Y V U) (V' : Nat → Int) : Cs W (setT w b3 (cellsZ V')) b1 b2 b3 b4 X Y V' U := by
  have hg := setT_grown w b3 (cellsZ V')
  exact ⟨h.t1.grown hg (by have := h.lo; simp; omega), h.t2.grown hg (by have := h.lo; simp; omega), h.t3.putT V', h.t4.grown hg (by have := h.lo; simp; omega), h.bel.grown hg h.bel.size (fun x e => by cases e; have := h.lo; omega), h.lo⟩
theorem Cs.g4 (h : Cs W w b1 b2 b3 b4 X Y V U) (V' : Nat → Int) : Cs W (setT w b4 (cellsZ V')) b1 b2 b3 b4 X Y V V' := by
  have hg := setT_grown w b4 (cellsZ V')
  exact ⟨h.t1.grown hg (by have := h.lo; simp; omega), h.t2.grown hg (by have := h.lo; simp; omega), h.t3.grown hg (by have := h.lo; simp; omega), h.t4.putT V', h.bel.grown hg h.bel.size (fun x e => by cases e; have := h.lo; omega), h.lo⟩
end
/-- the cells of a step, in a later world -/
theorem step_cells {W w : World} {b off k : Nat} {s : Sp} (hcs : ∀ j u, (spc s)[j]? = some u → W.cell? ⟨b, off + k * 6 + j, none⟩ = some u) (hb : Below W.heap.size W w) :
    w.cell? ⟨b, off + k * 6, none⟩ = some (.int .i64 s.what) ∧ w.cell? ⟨b, off + k * 6 + 1, none⟩ = some (.int .i64 s.why) ∧ w.cell? ⟨b, off + k * 6 + 2, none⟩ = some (.int .i64 s.port) ∧
    w.cell? ⟨b, off + k * 6 + 3, none⟩ = some (.bool s.mpls) ∧ w.cell? ⟨b, off + k * 6 + 4, none⟩ = some (.slice s.A s.n s.c) ∧ w.cell? ⟨b, off + k * 6 + 5, none⟩ = some (.int .i64 s.size) := by
  have key : ∀ j u, (spc s)[j]? = some u → w.cell? ⟨b, off + k * 6 + j, none⟩ = some u := fun j u hu => (hb.cell (World.block_lt_of_cell? W _ (hcs j u hu))).trans (hcs j u hu)
  exact ⟨key 0 _ rfl, key 1 _ rfl, key 2 _ rfl, key 3 _ rfl, key 4 _ rfl, key 5 _ rfl⟩

theorem below_al {a w : World} {o : Obj} (h : Below a.heap.size a w) : Below a.heap.size a (w.alloc o) := h.alloc h.size _
theorem rd_two (w : World) (g1 g2 : Nat) : Rd ptr1 1 (w.alloc (.cells #[.pointer (some ⟨g1, 0, none⟩), .pointer (some ⟨g2, 0, none⟩)] 25)) (some ⟨w.heap.size, 0, none⟩) 2 [some g1, some g2] := by
  refine ⟨rfl, fun i x hx => ⟨w.heap.size, 0, rfl, fun j u hu => ?_⟩⟩
  have hj : j = 0 := by
    have := (List.getElem?_eq_some_iff.1 hu).1
    simp [ptr1] at this
    omega
  subst hj
  rw [cell_of_row _ _ _ _ _ (0, 0) (heap_alloc_new _ _)]
  rcases i with _ | _ | i
  · simp at hx; subst hx; simp [ptr1] at hu; subst hu; rfl
  · simp at hx; subst hx; simp [ptr1] at hu; subst hu; rfl
  · simp at hx
theorem two_tl {w : World} {g1 g2 : Nat} {X Y : Nat → Int} (h1 : TlAt w g1 52 X) (h2 : TlAt w g2 52 Y) (hne : g1 ≠ g2) (b1 : Bd 10000000 X) (b2 : Bd 10000000 Y) :
    ∀ b, some b ∈ [some g1, some g2] → TlAt w b 52 ((fun b => if b = g1 then X else Y) b) ∧ Bd 100000000000 ((fun b => if b = g1 then X else Y) b) := by
  intro b hb
  simp at hb
  rcases hb with rfl | rfl
  · show TlAt w b _ (if b = b then X else Y) ∧ Bd 100000000000 (if b = b then X else Y)
    rw [if_pos rfl]; exact ⟨h1, b1.mono (by decide)⟩
  · have e : (if b = g1 then X else Y) = Y := if_neg (fun e => hne e.symm)
    show TlAt w b _ (if b = g1 then X else Y) ∧ Bd 100000000000 (if b = g1 then X else Y)
    rw [e]; exact ⟨h2, b2.mono (by decide)⟩
theorem sumP_two (X Y : Nat → Int) (g1 g2 : Nat) (hne : g1 ≠ g2) : sumP (fun b => if b = g1 then X else Y) [some g1, some g2] = addZ X Y := by
  show addZ (addZ zeroZ _) _ = _
  simp only [if_true, if_neg (fun e : g2 = g1 => hne e.symm), addZ_zero]
theorem radd_q {Z : Nat → Int} (hb : Bd 1099511627776 Z) (what why port : Int) (mpls : Bool) (s : ByteArray) (n : Nat) (hs : s.size = n) (hn : n ≤ 65000) (size : Int) (w : World) :
    Calls Tryd.prog 9 #[.agg (cellsZ Z), .agg #[.int .i64 what, .int .i64 why, .int .i64 port, .bool mpls, .string s], .int .i64 size] w fun e w' => e = .returned (.agg (cellsZ (addZ Z (dl what why port n size)))) ∧ Below w.heap.size w w' := by
  subst hs; exact radd_any hb what why port mpls s hn size w

set_option maxRecDepth 100000 in
set_option maxHeartbeats 8000000 in
theorem counts_any (SA SB : Option Addr) (n cn m cm : Nat) (l1 l2 : List Sp) (W : World) (h1 : Rd spc 6 W SA n l1 ∧ n ≤ maxLen ∧ ∀ s ∈ l1, SpRd W s) (h2 : Rd spc 6 W SB m l2 ∧ m ≤ maxLen ∧ ∀ s ∈ l2, SpRd W s) (ht : Tab W) (hnm : Names W) :
    Calls Tryd.prog 3 #[.slice SA n cn, .slice SB m cm] W fun e w' => e = .returned (.bool true) ∧ Below W.heap.size W w' := by
  have HA := Lib.hid (awake_any W ht hnm)
  have HS1 := Lib.hid (fun w1 (h : Below W.heap.size W w1) => small_any SA n cn l1 w1 (h1.1.below h) h1.2.1)
  have HS2 := Lib.hid (fun w1 (h : Below W.heap.size W w1) => small_any SB m cm l2 w1 (h2.1.below h) h2.2.1)
  have HR1 := Lib.hid h1
  have HR2 := Lib.hid h2
  have HTAB := Lib.hid ht
  have HNM := Lib.hid hnm
  have hlen1 := h1.1.1
  have hlen2 := h2.1.1
  clear h1 h2 ht hnm
  go_enter Tryd.func3, Tryd.ntmps3
  go_wp2_with fail
  refine (HA.out).mono ?_
  rintro e w1 ⟨rfl, hb1⟩
  have HB1 := Lib.hid hb1
  clear hb1 HA
  go_wp2_with fail
  refine (HS1.out _ HB1.out).mono ?_
  rintro e w2 ⟨rfl, rfl⟩
  go_wp2_with fail
  refine (HS2.out _ HB1.out).mono ?_
  rintro e w2 ⟨rfl, rfl⟩
  clear HS1 HS2
  by_cases hs1 : smallB l1 = true
  case neg =>
    have hs1' : smallB l1 = false := by simpa using hs1
    rw [hs1']
    go_wp2
    go_ret
    exact ⟨rfl, HB1.out⟩
  by_cases hs2 : smallB l2 = true
  case neg =>
    have hs2' : smallB l2 = false := by simpa using hs2
    rw [hs1, hs2']
    go_wp2
    go_ret
    exact ⟨rfl, HB1.out⟩
  rw [hs1, hs2]
  obtain ⟨hn60, hfew1⟩ := few_of hs1
  obtain ⟨hm60, hfew2⟩ := few_of hs2
  rw [hlen1] at hn60
  rw [hlen2] at hm60
  have HF1 := Lib.hid hfew1
  have HF2 := Lib.hid hfew2
  clear hs1 hs2 hfew1 hfew2
  go_wp2_with fail
  refine (new_any w1).mono ?_
  rintro e w3 ⟨rfl, ht3, hb3⟩
  have HT3 := Lib.hid ht3
  have HB3 := Lib.hid hb3
  clear ht3 hb3
  go_wp2_with fail
  refine (new_any w3).mono ?_
  rintro e w4 ⟨rfl, ht4, hb4⟩
  have HC : Hid (Cs W ((w4.alloc (.cells (cellsZ zeroZ) 31)).alloc (.cells (cellsZ zeroZ) 31)) w1.heap.size w3.heap.size w4.heap.size (w4.heap.size + 1) zeroZ zeroZ zeroZ zeroZ) := by
    refine Lib.hid ?_
    have hbb : Below w4.heap.size w4 ((w4.alloc (.cells (cellsZ zeroZ) 31)).alloc (.cells (cellsZ zeroZ) 31)) := by go_grown
    have hl3 := HT3.out.lt
    have hl4 := ht4.lt
    refine ⟨(HT3.out.below hb4).below hbb, ht4.below hbb, ?_, ?_, ((HB1.out.trans (HB3.out.mono HB1.out.size)).trans (hb4.mono (Nat.le_trans HB1.out.size HB3.out.size))).trans (hbb.mono (Nat.le_trans HB1.out.size (Nat.le_trans HB3.out.size hb4.size))), HB1.out.size, hl3, hl4, by omega⟩
    · exact (TlAt.new w4 _ _).below (by go_grown)
    · have := TlAt.new (w4.alloc (.cells (cellsZ zeroZ) 31)) 31 zeroZ
      simpa using this
  clear ht4 hb4 HT3
  go_wp2_with fail
  generalize (w4.alloc _).alloc _ = w5 at HC ⊢
  generalize w4.heap.size + 1 = g4 at *
  generalize w4.heap.size = g3 at *
  generalize w3.heap.size = g2 at *
  generalize w1.heap.size = g1 at *
  have hle1 := HR1.out.2.1
  have hle2 := HR2.out.2.1
  unfold maxLen at hle1 hle2
  go_loopw [12] (fun u wr => ∃ k : Nat, k ≤ n ∧ u = .int .i64 k ∧ Cs W wr g1 g2 g3 g4 (sumS (l1.take k)) zeroZ (sumS (l1.take k)) zeroZ) (fun u _ => n - (intOf u).toNat)
  case atStart => exact ⟨0, Nat.zero_le _, rfl, HC.out⟩
  case round =>
    obtain ⟨k, hk, rfl, hc⟩ := hrel
    have HCR := Lib.hid hc
    have hk0 : (0 : Int) ≤ k := by omega
    clear hc
    by_cases hlt : k < n
    · have hkn : (k : Int) < n := by omega
      obtain ⟨s, b, off, hx, rfl, hcs⟩ := HR1.out.1.at_ hlt
      have HX := Lib.hid (take_snoc hx)
      have hmem := List.mem_of_getElem? hx
      obtain ⟨xs, hxs⟩ := HR1.out.2.2 s hmem
      have HXS := Lib.hid (fun w' (h : Below W.heap.size W w') => hxs.below h)
      have hns := HF1.out s hmem
      have HCS := Lib.hid (fun w' (h : Below W.heap.size W w') => step_cells hcs h)
      have HBD := Lib.hid ((sumS_bd (l1.take k) (fun s hs => HF1.out s (List.mem_of_mem_take hs))).mono (show _ ≤ (1099511627776 : Int) by simp; omega))
      have HSN := Lib.hid (sumS_snoc (l1.take k) s)
      obtain ⟨what, why, port, mpls, A, ns, c', size⟩ := s
      clear hcs hx hmem hxs
      obtain ⟨y0, y1, y2, y3, y4, y5⟩ := HCS.out _ HCR.out.bel
      go_wp2_with fail
      go_still_tail 11, (by kernel_rfl)
      change wpList _ _ _ _ _ wr.drew
      go_wp2_with fail
      refine (add_any HCR.out.drew.t1 HBD.out what why port mpls A ns c' (by omega) size).mono ?_
      rintro e w6 ⟨rfl, t6, g6⟩
      have HC6 := Lib.hid (HCR.out.drew.g1 t6 g6)
      clear t6 g6 y0 y1 y2 y3 y4 y5
      go_wp2_with fail
      obtain ⟨y0, y1, y2, y3, y4, y5⟩ := HCS.out _ HC6.out.bel
      have q3 := HC6.out.drew.t3.ldT
      have hcs6 := HC6.out.drew
      go_region_with (first | (go_at_call 10; (with_reducible refine (plain_any what why port mpls c' (HXS.out _ (Cs.bel (by assumption)))).mono ?_); rintro e wA ⟨sb, rfl, hsz, hbA⟩; have hcsA := Cs.below (by assumption) hbA; have qA := hcsA.t3.ldT; obtain ⟨z0, z1, z2, z3, z4, z5⟩ := HCS.out _ hcsA.bel) | (go_at_call 9; (with_reducible refine (radd_q HBD.out what why port mpls sb ns hsz (by omega) size _).mono ?_); rintro e wB ⟨rfl, hbB⟩; have hcsB := Cs.below (by assumption) hbB; have qB := hcsB.t3.stT (addZ (sumS (l1.take k)) (dl what why port ns size)); have HFIN := Lib.hid (hcsB.g3 (addZ (sumS (l1.take k)) (dl what why port ns size)))))
      all_goals
        go_wp2
        go_roundw
        case rel => exact ⟨k + 1, by omega, by go_num, by rw [HX.out, HSN.out]; exact HFIN.out⟩
        case measure => simp [intOf]; omega
    · obtain rfl : k = n := by omega
      rw [List.take_of_length_le (show l1.length ≤ k by omega)] at HCR
      clear hlt hk hk0 HC
      generalize hX : sumS l1 = X at *
      have HXE := Lib.hid hX
      clear hX
      go_wp2_with fail
      obtain ⟨wq, rfl⟩ : ∃ wq : World, wq = wr := ⟨_, rfl⟩
      go_loopw [13] (fun u wx => ∃ k : Nat, k ≤ m ∧ u = .int .i64 k ∧ Cs W wx g1 g2 g3 g4 X (sumS (l2.take k)) X (sumS (l2.take k))) (fun u _ => m - (intOf u).toNat)
      case atStart => exact ⟨0, Nat.zero_le _, rfl, HCR.out⟩
      case round =>
        obtain ⟨k, hk, rfl, hc⟩ := hrel
        have HC2 := Lib.hid hc
        have hk0 : (0 : Int) ≤ k := by omega
        clear hc HCR
        by_cases hlt : k < m
        · have hkn : (k : Int) < m := by omega
          obtain ⟨s, b, off, hx, rfl, hcs⟩ := HR2.out.1.at_ hlt
          have HX := Lib.hid (take_snoc hx)
          have hmem := List.mem_of_getElem? hx
          obtain ⟨xs, hxs⟩ := HR2.out.2.2 s hmem
          have HXS := Lib.hid (fun w' (h : Below W.heap.size W w') => hxs.below h)
          have hns := HF2.out s hmem
          have HCS := Lib.hid (fun w' (h : Below W.heap.size W w') => step_cells hcs h)
          have HBD := Lib.hid ((sumS_bd (l2.take k) (fun s hs => HF2.out s (List.mem_of_mem_take hs))).mono (show _ ≤ (1099511627776 : Int) by simp; omega))
          have HSN := Lib.hid (sumS_snoc (l2.take k) s)
          obtain ⟨what, why, port, mpls, A, ns, c', size⟩ := s
          clear hcs hx hmem hxs
          obtain ⟨y0, y1, y2, y3, y4, y5⟩ := HCS.out _ HC2.out.bel
          go_wp2_with fail
          go_still_tail 11, (by kernel_rfl)
          change wpList _ _ _ _ _ wr.drew
          go_wp2_with fail
          refine (add_any HC2.out.drew.t2 HBD.out what why port mpls A ns c' (by omega) size).mono ?_
          rintro e w6 ⟨rfl, t6, g6⟩
          have HC6 := Lib.hid (HC2.out.drew.g2 t6 g6)
          clear t6 g6 y0 y1 y2 y3 y4 y5
          go_wp2_with fail
          obtain ⟨y0, y1, y2, y3, y4, y5⟩ := HCS.out _ HC6.out.bel
          have q3 := HC6.out.drew.t4.ldT
          have hcs6 := HC6.out.drew
          go_region_with (first | (go_at_call 10; (with_reducible refine (plain_any what why port mpls c' (HXS.out _ (Cs.bel (by assumption)))).mono ?_); rintro e wA ⟨sb, rfl, hsz, hbA⟩; have hcsA := Cs.below (by assumption) hbA; have qA := hcsA.t4.ldT; obtain ⟨z0, z1, z2, z3, z4, z5⟩ := HCS.out _ hcsA.bel) | (go_at_call 9; (with_reducible refine (radd_q HBD.out what why port mpls sb ns hsz (by omega) size _).mono ?_); rintro e wB ⟨rfl, hbB⟩; have hcsB := Cs.below (by assumption) hbB; have qB := hcsB.t4.stT (addZ (sumS (l2.take k)) (dl what why port ns size)); have HFIN := Lib.hid (hcsB.g4 (addZ (sumS (l2.take k)) (dl what why port ns size)))))
          all_goals
            go_wp2
            go_roundw
            case rel => exact ⟨k + 1, by omega, by go_num, by rw [HX.out, HSN.out]; exact HFIN.out⟩
            case measure => simp [intOf]; omega
        · obtain rfl : k = m := by omega
          rw [List.take_of_length_le (show l2.length ≤ k by omega)] at HC2
          clear hlt hk hk0
          have hbx : Bd 10000000 X := by rw [← HXE.out]; exact (sumS_bd l1 HF1.out).mono (by omega)
          have hby : Bd 10000000 (sumS l2) := (sumS_bd l2 HF2.out).mono (by omega)
          generalize sumS l2 = Y at *
          have HBX := Lib.hid hbx
          have HBY := Lib.hid hby
          clear hbx hby
          have HTN := Lib.hid (fun w' (h : Below W.heap.size W w') => And.intro (HTAB.out.below h) (HNM.out.below h))
          have q3 := HC2.out.t3.ldT
          go_wp2_with fail
          refine (told_any HC2.out.t1 (HBX.out.mono (by decide)) (HTN.out _ HC2.out.bel).1 (HTN.out _ HC2.out.bel).2).mono ?_
          rintro e w7 ⟨rfl, hb7⟩
          have HC7 := Lib.hid (HC2.out.below hb7)
          clear hb7 q3 HC2
          go_wp2_with fail
          have HK := Lib.hid (fun w' (h : Below w7.heap.size w7 w') => HC7.out.below h)
          have HCC := Lib.hid (fun w' (h : Below w7.heap.size w7 w') => And.intro h (And.intro (HC7.out.below h).t3.ldT (HC7.out.below h).t4.ldT))
          have HRD := Lib.hid (fun wx : World => rd_two wx g1 g2)
          have hlo := HC7.out.lo
          have HT2 := Lib.hid (fun w' (h : Below w7.heap.size w7 w') => two_tl (HK.out _ h).t1 (HK.out _ h).t2 (by omega) HBX.out HBY.out)
          have HSP := Lib.hid (sumP_two X Y g1 g2 (by omega))
          have hch1 : Below w7.heap.size w7 w7.drew := (Below.refl _ _).drew
          go_region_held3 (fun w' => Below w7.heap.size w7 w' ∧ (ldS 31 ⟨g3, 0, none⟩).run Tryd.prog w' = .ok (.agg (cellsZ X)) w' ∧ (ldS 31 ⟨g4, 0, none⟩).run Tryd.prog w' = .ok (.agg (cellsZ Y)) w')
            (first | assumption | exact HCC.out _ (by assumption) | exact HCC.out _ (below_al (And.left (by assumption))))
            (first | (go_at_call 12; (with_reducible refine (sum_any (ps := [some g1, some g2]) (F := fun b => if b = g1 then X else Y) ?_ (by decide) (HT2.out _ (And.left (by assumption)))).mono ?_); (first | exact HRD.out _ | exact (HRD.out _).below (by assumption)); rw [HSP.out]; rintro e wS ⟨rfl, htS, hbS⟩; have hchS := below_step (And.left (by assumption)) hbS) | (go_at_call 13; (with_reducible refine (rsum_any (HBX.out.mono (by decide)) (HBY.out.mono (by decide)) _).mono ?_); rintro e wR ⟨rfl, hbR⟩; have hchR := below_step (And.left (by assumption)) hbR) | (go_at_call 11; (with_reducible refine (told_any (Z := addZ X Y) ?_ ((HBX.out.add HBY.out).mono (by decide)) (HTN.out _ (HK.out _ (And.left (by assumption))).bel).1 (HTN.out _ (HK.out _ (And.left (by assumption))).bel).2).mono ?_); (first | exact htS | exact htS.below (by assumption) | simpa using htS | simpa using htS.below hbR); rintro e wT ⟨rfl, hbT⟩; have hchT := below_step (And.left (by assumption)) hbT))
          all_goals
            have hc7 := HK.out _ hchT
            have q4 := hc7.t3.ldT
            have HC9 := Lib.hid hc7
            clear hc7
            go_wp2_with fail
            refine (told_any HC9.out.t1 (HBX.out.mono (by decide)) (HTN.out _ HC9.out.bel).1 (HTN.out _ HC9.out.bel).2).mono ?_
            rintro e w8 ⟨rfl, hb8⟩
            have HF := Lib.hid (HC9.out.bel.trans (hb8.mono HC9.out.bel.size))
            clear hb8 q4
            go_wp2
            go_ret
            exact ⟨rfl, HF.out⟩

end Go.Proofs.YtpkfmikpgfgbgaaDoor
