/-
  slices.Clone and slices.DeleteFunc at ways; group.Without and the reference's Without.
-/
import Derived.Test.YtepbchgjnhnhjaaOwn
namespace Go.Proofs.Ytepbchgjnhnhjaa
open Go.RowKit

theorem Try.info_way : (Try.prog.info? 37).map (fun i => (i.zero, i.size, i.bytes)) = some (some (.agg #[.int .i64 0, .int .i64 0]), 2, 16) := by kernel_rfl

theorem ways_cells {w : World} {b off n : Nat} {l : List (Int × Int)} (h : Ways w (some ⟨b, off, none⟩) n l) : ∀ j u, (flat l)[j]? = some u → w.cell? ((⟨b, off, none⟩ : Addr).add j) = some u := by
  intro j u hu
  have hadd : (⟨b, off, none⟩ : Addr).add j = ⟨b, off + j, none⟩ := by unfold Addr.add; split <;> simp_all
  rw [hadd]
  have hj : j < l.length * 2 := by have := (List.getElem?_eq_some_iff.1 hu).1; rwa [flat_length] at this
  obtain ⟨x, hx⟩ : ∃ x, l[j / 2]? = some x := ⟨_, List.getElem?_eq_getElem (by omega)⟩
  obtain ⟨b', off', hA, h0, h1⟩ := h.2 _ x hx
  obtain ⟨rfl, rfl⟩ : b = b' ∧ off = off' := by simpa using hA
  have h2 := flat_at hx
  rcases Nat.mod_two_eq_zero_or_one j with hm | hm
  · have : j = j / 2 * 2 := by omega
    rw [this] at hu ⊢
    rw [h2.1] at hu
    rw [h0]
    exact hu
  · have : j = j / 2 * 2 + 1 := by omega
    rw [this] at hu ⊢
    rw [h2.2] at hu
    rw [← Nat.add_assoc, h1]
    exact hu

set_option maxHeartbeats 1000000 in
theorem clone_any (A : Option Addr) (n c : Nat) (l : List (Int × Int)) (w : World) (hl : Ways w A n l) (hn : n ≤ 1000000) :
    Calls Try.prog 28 #[.slice A n c] w fun e w' => ∃ v, e = .returned v ∧ w'.ownsRow w.heap.size 37 2 v n (flat l) ∧ Below w.heap.size w w' := by
  have hnil := fun W => Lib.run_eql_slice_nil (P := Try.prog) W 22 37 A n c 0 0 Try.underlying22
  obtain ⟨i0, hi, hz0, hz1, hz2⟩ := info_parts Try.info_way
  have HL := Lib.hid hl
  have HI := Lib.hid hi; have HZ0 := Lib.hid hz0; have HZ1 := Lib.hid hz1; have HZ2 := Lib.hid hz2
  clear hl hi hz0 hz1 hz2
  cases A with
  | none =>
    have hl0 : l = [] := by
      cases l with
      | nil => rfl
      | cons x l => obtain ⟨b, off, h, _⟩ := HL.out.2 0 x rfl; cases h
    subst hl0
    have hn0 : n = 0 := HL.out.1.symm
    subst hn0
    go_enter Try.func28, Try.ntmps28
    go_wp2
    go_ret
    exact ⟨_, rfl, World.ownsRow_nil _ _ _ _, Below.refl _ _⟩
  | some a =>
    by_cases h0 : n = 0
    · subst h0
      have hl0 : l = [] := List.eq_nil_of_length_eq_zero HL.out.1
      subst hl0
      go_enter Try.func28, Try.ntmps28
      go_wp2
      go_ret
      exact ⟨_, rfl, World.ownsRow_lit w #[] 0 (Nat.le_refl _) (by simp [maxLen]) rfl, by go_grown⟩
    · obtain ⟨x, b, off, -, hA, -, -⟩ := HL.out.at_ (show 0 < n by omega)
      injection hA with hA
      subst hA
      go_enter Try.func28, Try.ntmps28
      go_wp2_with
        (at_builtin
         refine wpList_append_own _ rfl _ _ 22 rfl w.heap.size 37 i0 (.agg #[.int .i64 0, .int .i64 0]) 2 16 Try.underlying22 HI.out HZ0.out HZ1.out HZ2.out rfl (by decide) _ 0 _ rfl
           (World.ownsRow_lit w #[] 0 (Nat.le_refl _) (by simp [maxLen]) rfl) ⟨b, off, none⟩ n c (flat l) rfl (by rw [flat_length, HL.out.1]) (ways_cells (HL.out.below (by go_grown))) (flat_one l) (by simp [maxLen]; omega) (by omega) (by simp) ?_
         intro v' w1 hown hgrow _)
      go_ret
      refine ⟨v', rfl, by simpa using hown, ?_⟩
      exact ((Below.refl _ w).alloc (Nat.le_refl _) _).grown hgrow (by simp) (fun k hk => Nat.le_of_eq (Option.some.inj (show some w.heap.size = some k from hk)))

theorem run_clear_ways (W : World) (ty : TypeId) (b o n c : Nat) (hn : 0 < n) (hc : ∀ j, j < n * 2 → (W.cell? ⟨b, o + j, none⟩).isSome = true) (hf : ∀ j, j < n * 2 → W.frozen? ⟨b, o + j, none⟩ = false) :
    (Builtin.clear_ #[22] ty #[.slice (some ⟨b, o, none⟩) n c]).run Try.prog W = .ok (.tuple #[]) (W.setCells b o (Builtin.zeroCells #[.int .i64 0, .int .i64 0] n).toList) := by
  obtain ⟨i0, hi, hz0, -, -⟩ := info_parts Try.info_way
  have hv : ∀ W, (zeroValue 37).run Try.prog W = .ok (.agg #[.int .i64 0, .int .i64 0]) W := fun W => by simp [zeroValue, typeInfo, hi, hz0]
  have hlen : (Builtin.zeroCells #[.int .i64 0, .int .i64 0] n).toList.length = n * 2 := by simp [Builtin.zeroCells]
  have hone : ∀ v ∈ (Builtin.zeroCells #[.int .i64 0, .int .i64 0] n).toList, v.oneCell' = true := by
    intro v hv'
    simp only [Builtin.zeroCells, Array.toList_map, List.mem_map] at hv'
    obtain ⟨i, _, rfl⟩ := hv'
    rcases Nat.mod_two_eq_zero_or_one i with h | h <;> simp [h] <;> rfl
  have hst := run_storeCells_cells (P := Try.prog) b o (Builtin.zeroCells #[.int .i64 0, .int .i64 0] n).toList 0 W (by rw [hlen]; simpa using hc) (by rw [hlen]; simpa using hf) hone
  simp only [Nat.add_zero] at hst
  obtain ⟨m, rfl⟩ : ∃ m, n = m + 1 := ⟨n - 1, by omega⟩
  simp [Builtin.clear_, run_underlying Try.underlying22, hv, Value.cells, hst]

theorem set_take {l : List (Int × Int)} {a : Nat} {x : Int × Int} (h : a < l.length) : (l.set a x).take (a + 1) = l.take a ++ [x] := by
  rw [List.take_set, List.take_succ_eq_append_getElem h]
  rw [List.set_append]
  simp [List.length_take, Nat.min_eq_left (Nat.le_of_lt h)]

theorem set_drop {l : List (Int × Int)} {a k : Nat} {x : Int × Int} (h : a < k) : (l.set a x).drop k = l.drop k := by
  rw [List.drop_set]
  rw [if_pos h]

theorem filter_take_yes {l : List (Int × Int)} {k : Nat} {x : Int × Int} (q : (Int × Int) → Bool) (h : l[k]? = some x) (hq : q x = true) : (l.take (k + 1)).filter q = (l.take k).filter q ++ [x] := by
  rw [Grp.take_snoc h, List.filter_append]; simp [hq]
theorem filter_take_no {l : List (Int × Int)} {k : Nat} {x : Int × Int} (q : (Int × Int) → Bool) (h : l[k]? = some x) (hq : q x = false) : (l.take (k + 1)).filter q = (l.take k).filter q := by
  rw [Grp.take_snoc h, List.filter_append]; simp [hq]

set_option maxHeartbeats 2000000 in
theorem deleteFunc (gb n c base : Nat) (l : List (Int × Int)) (g : Nat) (cap : Array Value) (C : World → Prop) (p : (Int × Int) → Bool) (w : World)
    (eg : ∀ args w, (callFunc g args).run Try.prog w = .ok (.enter g args) w)
    (hn : n ≤ 1000000) (hown : w.ownsRow base 37 2 (.slice (some ⟨gb, 0, none⟩) n c) n (flat l))
    (hC : ∀ W W' : World, C W → W.grownBy W' (some gb) → C W')
    (hstep : ∀ x W, C W → Calls Try.prog g (#[.agg #[.int .i64 x.1, .int .i64 x.2]] ++ cap) W fun e W' => e = .returned (.bool (p x)) ∧ Below W.heap.size W W')
    (h0 : C w) :
    Calls Try.prog 27 #[.slice (some ⟨gb, 0, none⟩) n c, .func (.func g) #[] cap] w fun e W' => ∃ m, e = .returned (.slice (some ⟨gb, 0, none⟩) m c) ∧
      W'.ownsRow base 37 2 (.slice (some ⟨gb, 0, none⟩) m c) m (flat (l.filter fun x => !p x)) ∧ w.grownBy W' (some gb) := by
  have hlen : l.length = n := by have := hown.1; rw [flat_length] at this; omega
  obtain ⟨hncap, hcapm⟩ : n ≤ c ∧ c ≤ maxLen := by
    rcases hown.2 with ⟨h, _⟩ | ⟨g', cap', cur, hv, hb, hg, hn, hc, hs, ht⟩
    · cases h
    · cases hv; exact ⟨hn, hc⟩
  have hcw : ∀ W W', C W → Below W.heap.size W W' → C W' := fun W W' h hb => hC W W' h (grown_of_below hb _)
  have hidx : Calls Try.prog 24 #[.slice (some ⟨gb, 0, none⟩) n c, .func (.func g) #[] cap] w
      fun e W' => e = .returned (.int .i64 (firstIdx (fun i => p (l.getD i (0, 0))) n)) ∧ Below w.heap.size w W' := by
    refine (indexFunc (some ⟨gb, 0, none⟩) n c l g cap (fun _ V => Below w.heap.size w V) (fun i => p (l.getD i (0, 0))) w eg (by omega) (fun i V hb => ?_) (fun i y V hy hb => ?_) (Below.refl _ _)).mono ?_
    · obtain ⟨A, c', hv, _, hw⟩ := Ways.of_own (own_below hown hb)
      cases hv
      exact hw
    · refine (hstep y V (hcw _ _ h0 hb)).mono fun e V' ⟨he, hb'⟩ => ⟨?_, hb.trans (hb'.mono hb.size)⟩
      rw [he, getD_of hy]
    · rintro e W' ⟨rfl, j, _, hj⟩
      exact ⟨rfl, hj⟩
  have HO := Lib.hid hown; have HI := Lib.hid hidx; have HS := Lib.hid hstep; have HC := Lib.hid hC; have HCW := Lib.hid hcw; have HL := Lib.hid hlen
  clear hown hidx hstep hC hcw hlen
  cases hf : (List.range n).find? (fun i => p (l.getD i (0, 0))) with
  | none =>
    have h1 : firstIdx (fun i => p (l.getD i (0, 0))) n = -1 := by rw [firstIdx, hf]
    have h2 : l.filter (fun x => !p x) = l := by
      rw [List.filter_eq_self]
      intro x hx
      obtain ⟨i, hi, rfl⟩ := List.getElem_of_mem hx
      rw [List.find?_eq_none] at hf
      have := hf i (List.mem_range.2 (by have := HL.out; omega))
      rw [getD_of (List.getElem?_eq_getElem hi)] at this
      simpa using this
    rw [h1] at HI
    clear hf h1
    have H2 := Lib.hid h2
    clear h2
    go_enter Try.func27, Try.ntmps27
    go_wp2_with (go_at_call 24; refine (HI.out).mono ?_; rintro e w1 ⟨rfl, hb1⟩)
    go_ret
    exact ⟨n, rfl, by rw [H2.out]; exact own_below HO.out hb1, grown_of_below hb1 _⟩
  | some i =>
    have h1 : firstIdx (fun i => p (l.getD i (0, 0))) n = (i : Int) := by rw [firstIdx, hf]
    have hin : i < n := List.mem_range.1 (List.mem_of_find?_eq_some hf)
    have hpi := List.find?_some hf
    have hbefore : ∀ j, j < i → p (l.getD j (0, 0)) = false := by
      intro j hj
      have := (List.find?_range_eq_some.1 hf).2.2 j hj
      simpa using this
    rw [h1] at HI
    have H0 : Hid ((l.take (i + 1)).filter (fun x => !p x) = l.take i) := by
      obtain ⟨x, hx⟩ : ∃ x, l[i]? = some x := ⟨_, List.getElem?_eq_getElem (by have := HL.out; omega)⟩
      have e1 : p x = true := by rw [getD_of hx] at hpi; exact hpi
      rw [Hid, filter_take_no _ hx (by simp [e1])]
      rw [List.filter_eq_self]
      intro y hy
      obtain ⟨j, hj, rfl⟩ := List.getElem_of_mem hy
      rw [List.length_take] at hj
      have := hbefore j (by omega)
      rw [List.getElem_take]
      rw [getD_of (List.getElem?_eq_getElem (by omega))] at this
      simp [this]
    clear hf h1 hpi hbefore
    go_enter Try.func27, Try.ntmps27
    have hne : ((i : Int) == -1) = false := by simp
    go_wp2_with (go_at_call 24; refine (HI.out).mono ?_; rintro e w1 ⟨rfl, hb1⟩)
    go_loopw [5, 6] (fun va vk W => ∃ a k : Nat, va = .int .i64 a ∧ vk = .int .i64 k ∧ a < k ∧ k ≤ n ∧ ∃ L : List (Int × Int), L.length = n ∧ W.ownsRow base 37 2 (.slice (some ⟨gb, 0, none⟩) n c) n (flat L) ∧
        L.take a = (l.take k).filter (fun x => !p x) ∧ L.drop k = l.drop k ∧ w.grownBy W (some gb) ∧ C W) (fun _ vk _ => n - (intOf vk).toNat)
    case atStart =>
      refine ⟨i, i + 1, rfl, by go_num, by omega, by omega, l, HL.out, own_below HO.out hb1, H0.out.symm, rfl, grown_of_below hb1 _, HCW.out _ _ h0 hb1⟩
    case round =>
      obtain ⟨a, k, rfl, rfl, hak, hk, L, hL, hown, htk, hdr, hgr, hCr⟩ := hrel
      have HOW := Lib.hid hown; have HT := Lib.hid htk; have HD := Lib.hid hdr; have HG := Lib.hid hgr; have HLL := Lib.hid hL
      clear hown htk hdr hgr hL
      by_cases hlt : k < n
      · obtain ⟨x, hx⟩ : ∃ x, l[k]? = some x := ⟨_, List.getElem?_eq_getElem (by have := HL.out; omega)⟩
        have hxL : L[k]? = some x := by
          have e1 : (L.drop k)[0]? = (l.drop k)[0]? := by rw [HD.out]
          simpa [hx] using e1
        have hc0 : wr.cell? ⟨gb, k * 2, none⟩ = some (.int .i64 x.1) := by rw [HOW.out.cellAt _ (by omega)]; exact (flat_at hxL).1
        have hc1 : wr.cell? ⟨gb, k * 2 + 1, none⟩ = some (.int .i64 x.2) := by rw [HOW.out.cellAt _ (by omega)]; exact (flat_at hxL).2
        have HX := Lib.hid hx; have HXL := Lib.hid hxL
        clear hx hxL
        have hcall : ∀ W, Below wr.heap.size wr W → Calls Try.prog g (#[.agg #[.int .i64 x.1, .int .i64 x.2]] ++ cap) W fun e W' => e = .returned (.bool (p x)) ∧ Below W.heap.size W W' := fun W hb => HS.out x W (HCW.out _ _ hCr hb)
        have HK := Lib.hid hcall
        clear hcall
        cases hpx : p x
        all_goals
          have HP := Lib.hid hpx
          rw [hpx] at HK
          clear hpx
          go_wp2_with (go_at_call 0; fail)
        · refine (HK.out _ ((Below.refl _ _).alloc (Nat.le_refl _) _)).mono ?_
          rintro e w2 ⟨rfl, hb2⟩
          have hb20 : Below wr.heap.size wr w2 := ((Below.refl _ wr).alloc (Nat.le_refl _) _).trans (hb2.mono (by simp))
          have hbx0 : w2.cell? ⟨wr.heap.size, 0, none⟩ = some (.int .i64 x.1) := (hb2.cell (p := ⟨wr.heap.size, 0, none⟩) (by simp)).trans (by simp)
          have hbx1 : w2.cell? ⟨wr.heap.size, 1, none⟩ = some (.int .i64 x.2) := (hb2.cell (p := ⟨wr.heap.size, 1, none⟩) (by simp)).trans (by simp)
          have hown2 := own_below HOW.out hb20
          obtain ⟨y, hy⟩ : ∃ y, L[a]? = some y := ⟨_, List.getElem?_eq_getElem (by have := HLL.out; omega)⟩
          have hd0 : w2.cell? ⟨gb, a * 2, none⟩ = some (.int .i64 y.1) := by rw [hown2.cellAt _ (by omega)]; exact (flat_at hy).1
          have hd1 : w2.cell? ⟨gb, a * 2 + 1, none⟩ = some (.int .i64 y.2) := by rw [hown2.cellAt _ (by omega)]; exact (flat_at hy).2
          have hf0 : w2.frozen? ⟨gb, a * 2, none⟩ = false := hown2.frozenAt _
          have hf1 : w2.frozen? ⟨gb, a * 2 + 1, none⟩ = false := hown2.frozenAt _
          have HO2 := Lib.hid hown2
          clear hown2 hy
          go_wp2
          go_roundw
          case rel =>
            have h3 := (HO2.out.stored (a * 2) (.int .i64 x.1))
            have h4 := (h3.1.stored (a * 2 + 1) (.int .i64 x.2))
            rw [← flat_set] at h4
            have hg3 : wr.grownBy ((w2.setCell ⟨gb, a * 2, none⟩ (.int .i64 x.1)).setCell ⟨gb, a * 2 + 1, none⟩ (.int .i64 x.2)) (some gb) :=
              grown_trans (grown_of_below hb20 _) (grown_trans h3.2 h4.2)
            refine ⟨a + 1, k + 1, by go_num, by go_num, by omega, by omega, L.set a x, by rw [List.length_set]; exact HLL.out, h4.1, ?_, ?_, grown_trans HG.out hg3, HC.out _ _ hCr hg3⟩
            · rw [set_take (by have := HLL.out; omega), HT.out, filter_take_yes _ HX.out (by rw [HP.out]; rfl)]
            · rw [set_drop (by omega), ← List.drop_drop (i := 1) (j := k), HD.out, List.drop_drop]
          case measure => simp [intOf]; omega
        · refine (HK.out _ ((Below.refl _ _).alloc (Nat.le_refl _) _)).mono ?_
          rintro e w2 ⟨rfl, hb2⟩
          have hb20 : Below wr.heap.size wr w2 := ((Below.refl _ wr).alloc (Nat.le_refl _) _).trans (hb2.mono (by simp))
          go_wp2
          go_roundw
          case rel =>
            refine ⟨a, k + 1, rfl, by go_num, by omega, by omega, L, HLL.out, own_below HOW.out hb20, ?_, ?_, grown_trans HG.out (grown_of_below hb20 _), HCW.out _ _ hCr hb20⟩
            · rw [HT.out, filter_take_no _ HX.out (by rw [HP.out]; rfl)]
            · rw [← List.drop_drop (i := 1) (j := k), HD.out, List.drop_drop]
          case measure => simp [intOf]; omega
      · have hkn : n = k := by omega
        subst hkn
        have hclr := run_clear_ways wr 0 gb (a * 2) (n - a) (c - a) (by omega)
          (fun j hj => by
            have hj' : a * 2 + j < n * 2 := by omega
            rw [HOW.out.cellAt _ hj', List.getElem?_eq_getElem (by rw [flat_length, HLL.out]; exact hj')]; rfl)
          (fun j hj => HOW.out.frozenAt _)
        go_wp2
        go_ret
        have hfin := own_setCells HOW.out (Nat.le_of_lt hak) (Builtin.zeroCells #[.int .i64 0, .int .i64 0] (n - a)).toList
        rw [← flat_take, HT.out, List.take_of_length_le (by have := HL.out; omega)] at hfin
        exact ⟨a, rfl, hfin, grown_trans HG.out (setCells_grown _ _ _ _)⟩

end Go.Proofs.Ytepbchgjnhnhjaa
