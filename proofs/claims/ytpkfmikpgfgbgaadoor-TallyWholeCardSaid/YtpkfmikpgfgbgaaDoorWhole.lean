/-
  The law TallyWhole, walked.
-/
import Derived.Test.YtpkfmikpgfgbgaaDoorAwake
import Derived.Test.YtpkfmikpgfgbgaaDoorWholeLaw
import Derived.Deep.RegionWith
namespace Go.Proofs.YtpkfmikpgfgbgaaDoor
open Go.RowKit

/-- three of the program's tallies -/
structure Ws (W w : World) (b1 b2 b3 : Nat) (X Y V : Nat → Int) : Prop where
  t1 : TlAt w b1 52 X
  t2 : TlAt w b2 52 Y
  t3 : TlAt w b3 52 V
  bel : Below W.heap.size W w
  lo : W.heap.size ≤ b1 ∧ b1 < b2 ∧ b2 < b3
section
variable {W w w' : World} {b1 b2 b3 : Nat} {X Y V : Nat → Int}
theorem Ws.below (h : Ws W w b1 b2 b3 X Y V) (hb : Below w.heap.size w w') : Ws W w' b1 b2 b3 X Y V :=
  ⟨h.t1.below hb, h.t2.below hb, h.t3.below hb, h.bel.trans (hb.mono h.bel.size), h.lo⟩
theorem Ws.drew (h : Ws W w b1 b2 b3 X Y V) : Ws W w.drew b1 b2 b3 X Y V := h.below (Below.refl _ _).drew
theorem Ws.g1 (h : Ws W w b1 b2 b3 X Y V) {X' : Nat → Int} (ht : TlAt w' b1 52 X') (hg : w.grownBy w' (some b1)) : Ws W w' b1 b2 b3 X' Y V :=
  ⟨ht, h.t2.grown hg (by have := h.lo; simp; omega), h.t3.grown hg (by have := h.lo; simp; omega), h.bel.grown hg h.bel.size (fun x e => by cases e; exact h.lo.1), h.lo⟩
theorem Ws.g2 (h : Ws W w b1 b2 b3 X Y V) {X' : Nat → Int} (ht : TlAt w' b2 52 X') (hg : w.grownBy w' (some b2)) : Ws W w' b1 b2 b3 X X' V :=
  ⟨h.t1.grown hg (by have := h.lo; simp; omega), ht, h.t3.grown hg (by have := h.lo; simp; omega), h.bel.grown hg h.bel.size (fun x e => by cases e; have := h.lo; omega), h.lo⟩
theorem Ws.g3 (h : Ws W w b1 b2 b3 X Y V) {X' : Nat → Int} (ht : TlAt w' b3 52 X') (hg : w.grownBy w' (some b3)) : Ws W w' b1 b2 b3 X Y X' :=
  ⟨h.t1.grown hg (by have := h.lo; simp; omega), h.t2.grown hg (by have := h.lo; simp; omega), ht, h.bel.grown hg h.bel.size (fun x e => by cases e; have := h.lo; omega), h.lo⟩
end
theorem wstep_cells {W w : World} {b off k : Nat} {s : Sp} (hcs : ∀ j u, (spc s)[j]? = some u → W.cell? ⟨b, off + k * 6 + j, none⟩ = some u) (hb : Below W.heap.size W w) :
    w.cell? ⟨b, off + k * 6, none⟩ = some (.int .i64 s.what) ∧ w.cell? ⟨b, off + k * 6 + 1, none⟩ = some (.int .i64 s.why) ∧ w.cell? ⟨b, off + k * 6 + 2, none⟩ = some (.int .i64 s.port) ∧
    w.cell? ⟨b, off + k * 6 + 3, none⟩ = some (.bool s.mpls) ∧ w.cell? ⟨b, off + k * 6 + 4, none⟩ = some (.slice s.A s.n s.c) ∧ w.cell? ⟨b, off + k * 6 + 5, none⟩ = some (.int .i64 s.size) := by
  have key : ∀ j u, (spc s)[j]? = some u → w.cell? ⟨b, off + k * 6 + j, none⟩ = some u := fun j u hu => (hb.cell (World.block_lt_of_cell? W _ (hcs j u hu))).trans (hcs j u hu)
  exact ⟨key 0 _ rfl, key 1 _ rfl, key 2 _ rfl, key 3 _ rfl, key 4 _ rfl, key 5 _ rfl⟩
theorem wrd_two (w : World) (g1 g2 : Nat) : Rd ptr1 1 (w.alloc (.cells #[.pointer (some ⟨g1, 0, none⟩), .pointer (some ⟨g2, 0, none⟩)] 25)) (some ⟨w.heap.size, 0, none⟩) 2 [some g1, some g2] := by
  refine ⟨rfl, fun i x hx => ⟨w.heap.size, 0, rfl, fun j u hu => ?_⟩⟩
  have hj : j = 0 := by
    have := (List.getElem?_eq_some_iff.1 hu).1
    simp [ptr1] at this
    omega
  subst hj
  rw [cell_of_row _ _ _ _ _ (0, 0) (heap_alloc_new _ _)]
  rcases i with _ | _ | i
  · simp at hx; subst hx; simp [ptr1] at hu; subst hu; rfl
  · simp at hx; subst hx; simp [ptr1] at hu; subst hu; rfl
  · simp at hx
theorem wtwo_tl {w : World} {g1 g2 : Nat} {X Y : Nat → Int} (h1 : TlAt w g1 52 X) (h2 : TlAt w g2 52 Y) (hne : g1 ≠ g2) (b1 : Bd 10000000 X) (b2 : Bd 10000000 Y) :
    ∀ b, some b ∈ [some g1, some g2] → TlAt w b 52 ((fun b => if b = g1 then X else Y) b) ∧ Bd 100000000000 ((fun b => if b = g1 then X else Y) b) := by
  intro b hb
  simp at hb
  rcases hb with rfl | rfl
  · show TlAt w b _ (if b = b then X else Y) ∧ Bd 100000000000 (if b = b then X else Y)
    rw [if_pos rfl]; exact ⟨h1, b1.mono (by decide)⟩
  · have e : (if b = g1 then X else Y) = Y := if_neg (fun e => hne e.symm)
    show TlAt w b _ (if b = g1 then X else Y) ∧ Bd 100000000000 (if b = g1 then X else Y)
    rw [e]; exact ⟨h2, b2.mono (by decide)⟩
theorem wsumP_two (X Y : Nat → Int) (g1 g2 : Nat) (hne : g1 ≠ g2) : sumP (fun b => if b = g1 then X else Y) [some g1, some g2] = addZ X Y := by
  show addZ (addZ zeroZ _) _ = _
  simp only [if_true, if_neg (fun e : g2 = g1 => hne e.symm), addZ_zero]
/-- two tallies, summed: the call's contract with the row just built -/
theorem wsum_two {w : World} {g1 g2 : Nat} {X Y : Nat → Int} (h1 : TlAt w g1 52 X) (h2 : TlAt w g2 52 Y) (hne : g1 ≠ g2) (b1 : Bd 10000000 X) (b2 : Bd 10000000 Y) :
    Calls Tryd.prog 12 #[.slice (some ⟨w.heap.size, 0, none⟩) 2 2] (w.alloc (.cells #[.pointer (some ⟨g1, 0, none⟩), .pointer (some ⟨g2, 0, none⟩)] 25))
      fun e w' => e = .returned (.pointer (some ⟨w.heap.size + 1, 0, none⟩)) ∧ TlAt w' (w.heap.size + 1) 52 (addZ X Y) ∧ Below w.heap.size w w' := by
  have hb : Below w.heap.size w (w.alloc (.cells #[.pointer (some ⟨g1, 0, none⟩), .pointer (some ⟨g2, 0, none⟩)] 25)) := by go_grown
  have := sum_any (n := 2) (c := 2) (ps := [some g1, some g2]) (F := fun b => if b = g1 then X else Y) (wrd_two w g1 g2) (by decide) (wtwo_tl (h1.below hb) (h2.below hb) hne b1 b2)
  rw [wsumP_two X Y g1 g2 hne] at this
  simp only [World.size_alloc] at this
  refine this.mono ?_
  rintro e w' ⟨he, ht, hbl⟩
  exact ⟨he, ht, hb.trans (hbl.mono (by simp))⟩
/-- a sum's text -/
theorem wshow_empty : showT zeroZ = [105, 110, 32, 48, 10] := by decide +kernel
theorem wsum_none (w : World) : Calls Tryd.prog 12 #[.slice none 0 0] w fun e w' => e = .returned (.pointer (some ⟨w.heap.size, 0, none⟩)) ∧ TlAt w' w.heap.size 52 zeroZ ∧ Below w.heap.size w w' :=
  sum_any (ps := []) (F := fun _ => zeroZ) (Rd.nil _ _) (by decide) (fun b hb => by simp at hb)
theorem wshow_none {w : World} {b : Nat} (h : TlAt w b 52 zeroZ) (ht : Tab w) (hn : Names w) :
    Calls Tryd.prog 17 #[.pointer (some ⟨b, 0, none⟩)] w fun e w' => e = .returned (.string ⟨#[105, 110, 32, 48, 10]⟩) ∧ Below w.heap.size w w' := by
  have := show_any h (Bd.zero.mono (by decide)) ht hn
  rw [wshow_empty] at this
  exact this

set_option maxRecDepth 100000 in
set_option maxHeartbeats 8000000 in
theorem whole_any (SA SB : Option Addr) (n cn m cm : Nat) (l1 l2 : List Sp) (W : World) (h1 : Rd spc 6 W SA n l1 ∧ n ≤ maxLen ∧ ∀ s ∈ l1, SpRd W s) (h2 : Rd spc 6 W SB m l2 ∧ m ≤ maxLen ∧ ∀ s ∈ l2, SpRd W s) (ht : Tab W) (hnm : Names W) :
    Calls Tryd.prog 4 #[.slice SA n cn, .slice SB m cm] W fun e w' => e = .returned (.bool true) ∧ Below W.heap.size W w' := by
  have HA := Lib.hid (awake_any W ht hnm)
  have HS1 := Lib.hid (fun w1 (h : Below W.heap.size W w1) => small_any SA n cn l1 w1 (h1.1.below h) h1.2.1)
  have HS2 := Lib.hid (fun w1 (h : Below W.heap.size W w1) => small_any SB m cm l2 w1 (h2.1.below h) h2.2.1)
  have HR1 := Lib.hid h1
  have HR2 := Lib.hid h2
  have HTAB := Lib.hid ht
  have HNM := Lib.hid hnm
  have hlen1 := h1.1.1
  have hlen2 := h2.1.1
  clear h1 h2 ht hnm
  go_enter Tryd.func4, Tryd.ntmps4
  go_wp2_with fail
  refine (HA.out).mono ?_
  rintro e w1 ⟨rfl, hb1⟩
  have HB1 := Lib.hid hb1
  clear hb1 HA
  go_wp2_with fail
  refine (HS1.out _ HB1.out).mono ?_
  rintro e w2 ⟨rfl, rfl⟩
  go_wp2_with fail
  refine (HS2.out _ HB1.out).mono ?_
  rintro e w2 ⟨rfl, rfl⟩
  clear HS1 HS2
  by_cases hs1 : smallB l1 = true
  case neg =>
    have hs1' : smallB l1 = false := by simpa using hs1
    rw [hs1']
    go_wp2
    go_ret
    exact ⟨rfl, HB1.out⟩
  by_cases hs2 : smallB l2 = true
  case neg =>
    have hs2' : smallB l2 = false := by simpa using hs2
    rw [hs1, hs2']
    go_wp2
    go_ret
    exact ⟨rfl, HB1.out⟩
  rw [hs1, hs2]
  obtain ⟨hn60, hfew1⟩ := few_of hs1
  obtain ⟨hm60, hfew2⟩ := few_of hs2
  rw [hlen1] at hn60
  rw [hlen2] at hm60
  have HF1 := Lib.hid hfew1
  have HF2 := Lib.hid hfew2
  clear hs1 hs2 hfew1 hfew2
  go_wp2_with fail
  refine (new_any w1).mono ?_
  rintro e w3 ⟨rfl, ht3, hb3⟩
  have HT3 := Lib.hid ht3
  have HB3 := Lib.hid hb3
  clear ht3 hb3
  go_wp2_with fail
  refine (new_any w3).mono ?_
  rintro e w4 ⟨rfl, ht4, hb4⟩
  have HT4 := Lib.hid ht4
  have HB4 := Lib.hid hb4
  clear ht4 hb4
  go_wp2_with fail
  refine (new_any w4).mono ?_
  rintro e w5 ⟨rfl, ht5, hb5⟩
  have HC : Hid (Ws W w5 w1.heap.size w3.heap.size w4.heap.size zeroZ zeroZ zeroZ) := by
    refine Lib.hid ?_
    have hl3 := HT3.out.lt
    have hl4 := HT4.out.lt
    exact ⟨(HT3.out.below HB4.out).below hb5, HT4.out.below hb5, ht5, ((HB1.out.trans (HB3.out.mono HB1.out.size)).trans (HB4.out.mono (Nat.le_trans HB1.out.size HB3.out.size))).trans (hb5.mono (Nat.le_trans HB1.out.size (Nat.le_trans HB3.out.size HB4.out.size))), HB1.out.size, hl3, hl4⟩
  clear ht5 hb5 HT3 HT4 HB3 HB4
  go_wp2_with fail
  generalize w4.heap.size = g3 at *
  generalize w3.heap.size = g2 at *
  generalize w1.heap.size = g1 at *
  have hle1 := HR1.out.2.1
  have hle2 := HR2.out.2.1
  unfold maxLen at hle1 hle2
  go_loopw [11] (fun u wr => ∃ k : Nat, k ≤ n ∧ u = .int .i64 k ∧ Ws W wr g1 g2 g3 (sumS (l1.take k)) zeroZ (sumS (l1.take k))) (fun u _ => n - (intOf u).toNat)
  case atStart => exact ⟨0, Nat.zero_le _, rfl, HC.out⟩
  case round =>
    obtain ⟨k, hk, rfl, hc⟩ := hrel
    have HCR := Lib.hid hc
    have hk0 : (0 : Int) ≤ k := by omega
    clear hc
    by_cases hlt : k < n
    · have hkn : (k : Int) < n := by omega
      obtain ⟨s, b, off, hx, rfl, hcs⟩ := HR1.out.1.at_ hlt
      have HX := Lib.hid (take_snoc hx)
      have hmem := List.mem_of_getElem? hx
      have hns := HF1.out s hmem
      have HCS := Lib.hid (fun w' (h : Below W.heap.size W w') => wstep_cells hcs h)
      have HBD := Lib.hid ((sumS_bd (l1.take k) (fun s hs => HF1.out s (List.mem_of_mem_take hs))).mono (show _ ≤ (1099511627776 : Int) by simp; omega))
      have HSN := Lib.hid (sumS_snoc (l1.take k) s)
      obtain ⟨what, why, port, mpls, A, ns, c', size⟩ := s
      clear hcs hx hmem
      obtain ⟨y0, y1, y2, y3, y4, y5⟩ := HCS.out _ HCR.out.bel
      go_wp2_with fail
      go_still_tail 11, (by kernel_rfl)
      change wpList _ _ _ _ _ wr.drew
      go_wp2_with fail
      refine (add_any HCR.out.drew.t1 HBD.out what why port mpls A ns c' (by omega) size).mono ?_
      rintro e w6 ⟨rfl, t6, g6⟩
      have HC6 := Lib.hid (HCR.out.drew.g1 t6 g6)
      clear t6 g6 y0 y1 y2 y3 y4 y5
      obtain ⟨y0, y1, y2, y3, y4, y5⟩ := HCS.out _ HC6.out.bel
      go_wp2_with fail
      go_still_tail 11, (by kernel_rfl)
      change wpList _ _ _ _ _ w6.drew
      go_wp2_with fail
      refine (add_any HC6.out.drew.t3 HBD.out what why port mpls A ns c' (by omega) size).mono ?_
      rintro e w7 ⟨rfl, t7, g7⟩
      have HC7 := Lib.hid (HC6.out.drew.g3 t7 g7)
      clear t7 g7 y0 y1 y2 y3 y4 y5
      go_wp2
      go_roundw
      case rel => exact ⟨k + 1, by omega, by go_num, by rw [HX.out, HSN.out]; exact HC7.out⟩
      case measure => simp [intOf]; omega
    · obtain rfl : n = k := by omega
      rw [List.take_of_length_le (show l1.length ≤ n by omega)] at HCR
      clear hlt hk hk0 HC
      generalize hX : sumS l1 = X at *
      have HXE := Lib.hid hX
      clear hX
      go_wp2_with fail
      obtain ⟨wq, rfl⟩ : ∃ wq : World, wq = wr := ⟨_, rfl⟩
      go_loopw [12] (fun u wx => ∃ k : Nat, k ≤ m ∧ u = .int .i64 k ∧ Ws W wx g1 g2 g3 X (sumS (l2.take k)) (addZ X (sumS (l2.take k)))) (fun u _ => m - (intOf u).toNat)
      case atStart => exact ⟨0, Nat.zero_le _, rfl, by show Ws W wq g1 g2 g3 X zeroZ (addZ X zeroZ); rw [addZ_zero']; exact HCR.out⟩
      case round =>
        obtain ⟨k, hk, rfl, hc⟩ := hrel
        have HC2 := Lib.hid hc
        have hk0 : (0 : Int) ≤ k := by omega
        clear hc HCR
        by_cases hlt : k < m
        · have hkn : (k : Int) < m := by omega
          obtain ⟨s, b, off, hx, rfl, hcs⟩ := HR2.out.1.at_ hlt
          have HX := Lib.hid (take_snoc hx)
          have hmem := List.mem_of_getElem? hx
          have hns := HF2.out s hmem
          have HCS := Lib.hid (fun w' (h : Below W.heap.size W w') => wstep_cells hcs h)
          have HBD := Lib.hid ((sumS_bd (l2.take k) (fun s hs => HF2.out s (List.mem_of_mem_take hs))).mono (show _ ≤ (1099511627776 : Int) by simp; omega))
          have HBD3 := Lib.hid (((sumS_bd l1 HF1.out).add (sumS_bd (l2.take k) (fun s hs => HF2.out s (List.mem_of_mem_take hs)))).mono (show _ ≤ (1099511627776 : Int) by simp; omega))
          rw [HXE.out] at HBD3
          have HSN := Lib.hid (sumS_snoc (l2.take k) s)
          obtain ⟨what, why, port, mpls, A, ns, c', size⟩ := s
          clear hcs hx hmem
          obtain ⟨y0, y1, y2, y3, y4, y5⟩ := HCS.out _ HC2.out.bel
          go_wp2_with fail
          go_still_tail 11, (by kernel_rfl)
          change wpList _ _ _ _ _ wr.drew
          go_wp2_with fail
          refine (add_any HC2.out.drew.t2 HBD.out what why port mpls A ns c' (by omega) size).mono ?_
          rintro e w6 ⟨rfl, t6, g6⟩
          have HC6 := Lib.hid (HC2.out.drew.g2 t6 g6)
          clear t6 g6 y0 y1 y2 y3 y4 y5
          obtain ⟨y0, y1, y2, y3, y4, y5⟩ := HCS.out _ HC6.out.bel
          go_wp2_with fail
          go_still_tail 11, (by kernel_rfl)
          change wpList _ _ _ _ _ w6.drew
          go_wp2_with fail
          refine (add_any HC6.out.drew.t3 HBD3.out what why port mpls A ns c' (by omega) size).mono ?_
          rintro e w7 ⟨rfl, t7, g7⟩
          have HC7 := Lib.hid (HC6.out.drew.g3 t7 g7)
          clear t7 g7 y0 y1 y2 y3 y4 y5
          go_wp2
          go_roundw
          case rel => exact ⟨k + 1, by omega, by go_num, by rw [HX.out, HSN.out, ← addZ_assoc]; exact HC7.out⟩
          case measure => simp [intOf]; omega
        · obtain rfl : m = k := by omega
          rw [List.take_of_length_le (show l2.length ≤ m by omega)] at HC2
          clear hlt hk hk0
          have hbx : Bd 10000000 X := by rw [← HXE.out]; exact (sumS_bd l1 HF1.out).mono (by omega)
          have hby : Bd 10000000 (sumS l2) := (sumS_bd l2 HF2.out).mono (by omega)
          have hwh := whole_two l1 l2
          rw [HXE.out, hlen1, hlen2] at hwh
          generalize sumS l2 = Y at *
          have HBX := Lib.hid hbx
          have HBY := Lib.hid hby
          have HBV := Lib.hid (hbx.add hby)
          have HCOM := Lib.hid (addZ_comm Y X)
          clear hbx hby
          generalize hV : addZ X Y = V at *
          have HVE := Lib.hid hV
          have HWH := Lib.hid hwh
          clear hV hwh
          have HTN := Lib.hid (fun w' (h : Below W.heap.size W w') => And.intro (HTAB.out.below h) (HNM.out.below h))
          go_wp2_with fail
          go_loop [13, 15] (fun s v => ∃ k : Nat, k ≤ 4 ∧ v = .int .i64 k ∧ s = .int .i64 (sumTo V 0 k)) (fun _ v => 4 - (intOf v).toNat)
          case atStart => exact ⟨0, Nat.zero_le _, rfl, rfl⟩
          case round =>
            obtain ⟨i, hi, rfl, rfl⟩ := hrel
            have hi0 : (0 : Int) ≤ i := by omega
            by_cases hlt : i < 4
            · have hi4 : (i : Int) < 4 := by omega
              have hsb := sumTo_bd HBV.out 0 i
              have hvb := HBV.out i
              have hsv : sumTo V 0 (i + 1) = sumTo V 0 i + V i := by simp [sumTo]
              go_wp2_with fail
              refine (what_q HC2.out.t3 (i : Int) (V i) (by rw [atZ_in _ _ _ _ hlt, Nat.zero_add])).mono ?_
              rintro e w8 ⟨rfl, rfl⟩
              have e1 : IntKind.i64.wrap (sumTo V 0 i + V i) = sumTo V 0 (i + 1) := by rw [hsv]; exact IntWalk.i64_in _ (by omega)
              go_wp2
              go_round
              case rel => exact ⟨i + 1, by omega, by go_num, by rw [← e1]; go_num⟩
              case measure => simp [intOf]; omega
            · obtain rfl : i = 4 := by omega
              clear hlt hi hi0
              rw [show ((4 : Nat) : Int) = 4 from rfl]
              have hwh := HWH.out
              have hsb13 := fun j => sumTo_bd HBV.out 4 j
              generalize hS : sumTo V 0 4 = S at hwh ⊢
              go_wp2_with fail
              go_loop [14, 16] (fun s v => ∃ k : Nat, k ≤ 13 ∧ v = .int .i64 k ∧ s = .int .i64 (sumTo V 4 k)) (fun _ v => 13 - (intOf v).toNat)
              case atStart => exact ⟨0, Nat.zero_le _, rfl, rfl⟩
              case round =>
                obtain ⟨i, hi, rfl, rfl⟩ := hrel
                have hi0 : (0 : Int) ≤ i := by omega
                by_cases hlt : i < 13
                · have hi13 : (i : Int) < 13 := by omega
                  have hsb := hsb13 i
                  have hvb := HBV.out (4 + i)
                  have hsv : sumTo V 4 (i + 1) = sumTo V 4 i + V (4 + i) := by simp [sumTo]
                  clear hwh hsb13
                  go_wp2_with fail
                  refine (why_q HC2.out.t3 (i : Int) (V (4 + i)) (by rw [atZ_in _ _ _ _ hlt])).mono ?_
                  rintro e w8 ⟨rfl, rfl⟩
                  have e1 : IntKind.i64.wrap (sumTo V 4 i + V (4 + i)) = sumTo V 4 (i + 1) := by rw [hsv]; exact IntWalk.i64_in _ (by omega)
                  go_wp2
                  go_round
                  case rel => exact ⟨i + 1, by omega, by go_num, by rw [← e1]; go_num⟩
                  case measure => simp [intOf]; omega
                · obtain rfl : i = 13 := by omega
                  clear hlt hi hi0 hsb13
                  rw [show ((13 : Nat) : Int) = 13 from rfl, hwh.1]
                  have hwh2 := hwh.2
                  clear hwh HWH
                  generalize hsv : txt (showT V) = sv
                  have HSV := Lib.hid hsv
                  clear hsv
                  go_wp2_with fail
                  refine (nil_add 0 0 0 false none 0 0 5 _).mono ?_
                  rintro e w8 ⟨rfl, hb8⟩
                  have HC8 := Lib.hid (HC2.out.below hb8)
                  clear hb8 HC2
                  go_wp2_with fail
                  refine (nil_out 0 _).mono ?_
                  rintro e w9 ⟨rfl, rfl⟩
                  have d1 : decide (S ≤ IntKind.i64.wrap ((n : Int) + (m : Int))) = true := by
                    rw [IntWalk.i64_in _ (by omega)]; simpa using hwh2.2
                  have hw1 : IntKind.i64.wrap ((n : Int) + (m : Int)) = (n : Int) + (m : Int) := IntWalk.i64_in _ (by omega)
                  go_wp2_with fail
                  clear d1 hw1 hwh2
                  have hne12 : g1 ≠ g2 := by have := HC8.out.lo; omega
                  refine (wsum_two HC8.out.t1 HC8.out.t2 hne12 HBX.out HBY.out).mono ?_
                  rw [HVE.out]
                  rintro e w9 ⟨rfl, ht9, hb9⟩
                  have HT9 := Lib.hid ht9
                  have HC9 := Lib.hid (HC8.out.below hb9)
                  generalize w8.heap.size + 1 = b9 at *
                  clear ht9 hb9 HC8
                  go_wp2_with fail
                  refine (show_any HT9.out (HBV.out.mono (by decide)) (HTN.out _ HC9.out.bel).1 (HTN.out _ HC9.out.bel).2).mono ?_
                  rw [HSV.out]
                  rintro e w10 ⟨rfl, hb10⟩
                  have HC10 := Lib.hid (HC9.out.below hb10)
                  clear hb10 HC9 HT9
                  go_wp2_with fail
                  refine (show_any HC10.out.t3 (HBV.out.mono (by decide)) (HTN.out _ HC10.out.bel).1 (HTN.out _ HC10.out.bel).2).mono ?_
                  rw [HSV.out]
                  rintro e w11 ⟨rfl, hb11⟩
                  have HC11 := Lib.hid (HC10.out.below hb11)
                  clear hb11 HC10
                  go_wp2_with fail
                  refine (wsum_two HC11.out.t2 HC11.out.t1 (fun e => hne12 e.symm) HBY.out HBX.out).mono ?_
                  rw [HCOM.out]
                  rintro e w12 ⟨rfl, ht12, hb12⟩
                  have HT12 := Lib.hid ht12
                  have HC12 := Lib.hid (HC11.out.below hb12)
                  generalize w11.heap.size + 1 = b12 at *
                  clear ht12 hb12 HC11
                  go_wp2_with fail
                  refine (show_any HT12.out (HBV.out.mono (by decide)) (HTN.out _ HC12.out.bel).1 (HTN.out _ HC12.out.bel).2).mono ?_
                  rw [HSV.out]
                  rintro e w13 ⟨rfl, hb13⟩
                  have HC13 := Lib.hid (HC12.out.below hb13)
                  clear hb13 HC12 HT12
                  go_wp2_with fail
                  refine (show_any HC13.out.t3 (HBV.out.mono (by decide)) (HTN.out _ HC13.out.bel).1 (HTN.out _ HC13.out.bel).2).mono ?_
                  rw [HSV.out]
                  rintro e w14 ⟨rfl, hb14⟩
                  have HC14 := Lib.hid (HC13.out.below hb14)
                  clear hb14 HC13
                  go_wp2_with fail
                  refine (nil_show _).mono ?_
                  rintro e w15 ⟨rfl, rfl⟩
                  go_wp2_with fail
                  refine (nil_in _).mono ?_
                  rintro e w15 ⟨rfl, rfl⟩
                  go_wp2_with fail
                  refine (nil_what 0 _).mono ?_
                  rintro e w15 ⟨rfl, rfl⟩
                  go_wp2_with fail
                  refine (nil_why 0 _).mono ?_
                  rintro e w15 ⟨rfl, rfl⟩
                  go_wp2_with fail
                  refine (wsum_none _).mono ?_
                  rintro e w15 ⟨rfl, ht15, hb15⟩
                  have HT15 := Lib.hid ht15
                  have HC15 := Lib.hid (HC14.out.below hb15)
                  generalize w14.heap.size = b15 at *
                  clear ht15 hb15 HC14
                  go_wp2_with fail
                  refine (wshow_none HT15.out (HTN.out _ HC15.out.bel).1 (HTN.out _ HC15.out.bel).2).mono ?_
                  rintro e w16 ⟨rfl, hb16⟩
                  have HF := Lib.hid (HC15.out.below hb16).bel
                  clear hb16 HC15 HT15
                  go_wp2
                  go_ret
                  exact ⟨rfl, HF.out⟩

end Go.Proofs.YtpkfmikpgfgbgaaDoor
