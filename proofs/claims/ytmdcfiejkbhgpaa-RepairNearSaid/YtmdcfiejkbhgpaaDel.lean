/-
  slices.Clone and slices.DeleteFunc at links; spf.Without.
-/
import Derived.Test.YtmdcfiejkbhgpaaUses
namespace Go.Proofs.Ytmdcfiejkbhgpaa
open Go.RowKit

set_option maxHeartbeats 1000000 in
theorem clone_any (A : Option Addr) (n c : Nat) (l : List Lk) (w : World) (hl : Rd lkc 3 w A n l) (hn : n ≤ 1000000) :
    Calls Try.prog 53 #[.slice A n c] w fun e w' => ∃ v, e = .returned v ∧ LksAt w' w.heap.size v l ∧ Below w.heap.size w w' := by
  have hnil := fun W => Lib.run_eql_slice_nil (P := Try.prog) W 22 34 A n c 0 0 Try.underlying22
  obtain ⟨i0, hi, hz0, hz1, hz2⟩ := info_parts Try.info_link
  have HL := Lib.hid hl
  have HI := Lib.hid hi; have HZ0 := Lib.hid hz0; have HZ1 := Lib.hid hz1; have HZ2 := Lib.hid hz2
  clear hl hi hz0 hz1 hz2
  cases A with
  | none =>
    obtain ⟨rfl, rfl⟩ := HL.out.nil_of
    go_enter Try.func53, Try.ntmps53
    go_wp2
    go_ret
    exact ⟨_, rfl, lksAt_nil _ _, Below.refl _ _⟩
  | some a =>
    by_cases h0 : n = 0
    · subst h0
      have hl0 : l = [] := List.eq_nil_of_length_eq_zero HL.out.1
      subst hl0
      go_enter Try.func53, Try.ntmps53
      go_wp2
      go_ret
      exact ⟨_, rfl, World.ownsRow_lit w #[] 0 (Nat.le_refl _) (by simp [maxLen]) rfl, by go_grown⟩
    · obtain ⟨x, b, off, -, hA, -⟩ := HL.out.at_ (show 0 < n by omega)
      injection hA with hA
      subst hA
      go_enter Try.func53, Try.ntmps53
      go_wp2_with
        (at_builtin
         refine wpList_append_own _ rfl _ _ 22 rfl w.heap.size 34 i0 (.agg #[.int .i64 0, .int .i64 0, .int .i64 0]) 3 24 Try.underlying22 HI.out HZ0.out HZ1.out HZ2.out rfl (by decide) _ 0 _ rfl
           (World.ownsRow_lit w #[] 0 (Nat.le_refl _) (by simp [maxLen]) rfl) ⟨b, off, none⟩ n c (flatE lkc l) rfl (by rw [flatE_length lkc_len, HL.out.1]) (Rd.cells lkc_len (by decide) (HL.out.below (by go_grown))) (flatE_one' (hone := lkc_one) l) (by simp [maxLen]; omega) (by omega) (by simp) ?_
         intro v' w1 hown hgrow _)
      go_ret
      refine ⟨v', rfl, ?_, ?_⟩
      · unfold LksAt
        rw [HL.out.1]
        simpa using hown
      · exact ((Below.refl _ w).alloc (Nat.le_refl _) _).grown hgrow (by simp) (fun k hk => Nat.le_of_eq (Option.some.inj (show some w.heap.size = some k from hk)))

theorem run_clear_links (W : World) (ty : TypeId) (b o n c : Nat) (hn : 0 < n) (hc : ∀ j, j < n * 3 → (W.cell? ⟨b, o + j, none⟩).isSome = true) (hf : ∀ j, j < n * 3 → W.frozen? ⟨b, o + j, none⟩ = false) :
    (Builtin.clear_ #[22] ty #[.slice (some ⟨b, o, none⟩) n c]).run Try.prog W = .ok (.tuple #[]) (W.setCells b o (Builtin.zeroCells #[.int .i64 0, .int .i64 0, .int .i64 0] n).toList) := by
  obtain ⟨i0, hi, hz0, -, -⟩ := info_parts Try.info_link
  have hv : ∀ W, (zeroValue 34).run Try.prog W = .ok (.agg #[.int .i64 0, .int .i64 0, .int .i64 0]) W := fun W => by simp [zeroValue, typeInfo, hi, hz0]
  have hlen : (Builtin.zeroCells #[.int .i64 0, .int .i64 0, .int .i64 0] n).toList.length = n * 3 := by simp [Builtin.zeroCells]
  have hone : ∀ v ∈ (Builtin.zeroCells #[.int .i64 0, .int .i64 0, .int .i64 0] n).toList, v.oneCell' = true := by
    intro v hv'
    simp only [Builtin.zeroCells, Array.toList_map, List.mem_map] at hv'
    obtain ⟨i, _, rfl⟩ := hv'
    have h3 : i % 3 = 0 ∨ i % 3 = 1 ∨ i % 3 = 2 := by omega
    rcases h3 with h | h | h <;> simp [h] <;> rfl
  have hst := run_storeCells_cells (P := Try.prog) b o (Builtin.zeroCells #[.int .i64 0, .int .i64 0, .int .i64 0] n).toList 0 W (by rw [hlen]; simpa using hc) (by rw [hlen]; simpa using hf) hone
  simp only [Nat.add_zero] at hst
  obtain ⟨m, rfl⟩ : ∃ m, n = m + 1 := ⟨n - 1, by omega⟩
  simp [Builtin.clear_, run_underlying Try.underlying22, hv, Value.cells, hst]

theorem set_take {l : List Lk} {a : Nat} {x : Lk} (h : a < l.length) : (l.set a x).take (a + 1) = l.take a ++ [x] := by
  rw [List.take_set, List.take_succ_eq_append_getElem h]
  rw [List.set_append]
  simp [List.length_take, Nat.min_eq_left (Nat.le_of_lt h)]
theorem set_drop {l : List Lk} {a k : Nat} {x : Lk} (h : a < k) : (l.set a x).drop k = l.drop k := by
  rw [List.drop_set]
  rw [if_pos h]
theorem filter_take_yes {l : List Lk} {k : Nat} {x : Lk} (q : Lk → Bool) (h : l[k]? = some x) (hq : q x = true) : (l.take (k + 1)).filter q = (l.take k).filter q ++ [x] := by
  rw [take_snoc h, List.filter_append]; simp [hq]
theorem filter_take_no {l : List Lk} {k : Nat} {x : Lk} (q : Lk → Bool) (h : l[k]? = some x) (hq : q x = false) : (l.take (k + 1)).filter q = (l.take k).filter q := by
  rw [take_snoc h, List.filter_append]; simp [hq]
/-- a struct is put into a row: three stores -/
theorem own_set3 {W : World} {base gb n c a : Nat} {L : List Lk} {x : Lk} (h : W.ownsRow base 34 3 (.slice (some ⟨gb, 0, none⟩) n c) n (flatE lkc L)) (ha : a < L.length) :
    (((W.setCell ⟨gb, a * 3, none⟩ (.int .i64 x.f)).setCell ⟨gb, a * 3 + 1, none⟩ (.int .i64 x.t)).setCell ⟨gb, a * 3 + 2, none⟩ (.int .i64 x.c)).ownsRow base 34 3 (.slice (some ⟨gb, 0, none⟩) n c) n (flatE lkc (L.set a x)) := by
  rw [flatE_set lkc_len L a x ha]
  exact own_setCells (lkc x) (a * 3) h
theorem grown_set3 (W : World) (gb o : Nat) (x y z : Value) : W.grownBy (((W.setCell ⟨gb, o, none⟩ x).setCell ⟨gb, o + 1, none⟩ y).setCell ⟨gb, o + 2, none⟩ z) (some gb) :=
  grown_trans (grown_set1 W gb o x) (grown_trans (grown_set1 _ gb (o + 1) y) (grown_set1 _ gb (o + 2) z))
/-- the end is cleared, the row is shorter -/
theorem own_cleared {W : World} {base gb n c a : Nat} {L : List Lk} (h : W.ownsRow base 34 3 (.slice (some ⟨gb, 0, none⟩) n c) n (flatE lkc L)) (ha : a ≤ n) (vs : List Value) :
    (W.setCells gb (a * 3) vs).ownsRow base 34 3 (.slice (some ⟨gb, 0, none⟩) a c) a (flatE lkc (L.take a)) := by
  have h1 := own_shorter (own_setCells vs (a * 3) h) ha
  have e : (setAll (flatE lkc L) (a * 3) vs).take (a * 3) = flatE lkc (L.take a) := by
    rw [flatE_take lkc_len]
    apply List.ext_getElem?
    intro q
    rw [List.getElem?_take, List.getElem?_take]
    split
    · rw [setAll_at, if_neg (by omega)]
    · rfl
  rwa [e] at h1

set_option maxHeartbeats 4000000 in
theorem deleteFunc (gb n c base : Nat) (l : List Lk) (g : Nat) (cap : Array Value) (C : World → Prop) (p : Lk → Bool) (w : World)
    (eg : ∀ args w, (callFunc g args).run Try.prog w = .ok (.enter g args) w)
    (hn : n ≤ 1000000) (hown : w.ownsRow base 34 3 (.slice (some ⟨gb, 0, none⟩) n c) n (flatE lkc l))
    (hC : ∀ W W' : World, C W → W.grownBy W' (some gb) → C W')
    (hstep : ∀ x W, C W → Calls Try.prog g (#[.agg #[.int .i64 x.f, .int .i64 x.t, .int .i64 x.c]] ++ cap) W fun e W' => e = .returned (.bool (p x)) ∧ Below W.heap.size W W')
    (h0 : C w) :
    Calls Try.prog 52 #[.slice (some ⟨gb, 0, none⟩) n c, .func (.func g) #[] cap] w fun e W' => ∃ m, e = .returned (.slice (some ⟨gb, 0, none⟩) m c) ∧
      W'.ownsRow base 34 3 (.slice (some ⟨gb, 0, none⟩) m c) m (flatE lkc (l.filter fun x => !p x)) ∧ w.grownBy W' (some gb) := by
  have hlen : l.length = n := by have := hown.1; rw [flatE_length lkc_len] at this; omega
  obtain ⟨hncap, hcapm⟩ : n ≤ c ∧ c ≤ maxLen := by
    rcases hown.2 with ⟨h, _⟩ | ⟨g', cap', cur, hv, hb, hg, hn, hc, hs, ht⟩
    · cases h
    · cases hv; exact ⟨hn, hc⟩
  have hcw : ∀ W W', C W → Below W.heap.size W W' → C W' := fun W W' h hb => hC W W' h (grown_of_below hb _)
  have hidx : Calls Try.prog 50 #[.slice (some ⟨gb, 0, none⟩) n c, .func (.func g) #[] cap] w
      fun e W' => e = .returned (.int .i64 (firstIdx (fun i => p (l.getD i default)) n)) ∧ Below w.heap.size w W' := by
    refine (indexFunc (some ⟨gb, 0, none⟩) n c l g cap (fun _ V => Below w.heap.size w V) (fun i => p (l.getD i default)) w eg (by omega) (fun i V hb => ?_) (fun i y V hy hb => ?_) (Below.refl _ _)).mono ?_
    · obtain ⟨A, c', hv, _, hw⟩ := Rd.of_own lkc_len (by decide) (own_below hown hb)
      cases hv
      exact hw
    · refine (hstep y V (hcw _ _ h0 hb)).mono fun e V' ⟨he, hb'⟩ => ⟨?_, hb.trans (hb'.mono hb.size)⟩
      rw [he, getD_of hy]
    · rintro e W' ⟨rfl, j, _, hj⟩
      exact ⟨rfl, hj⟩
  have HO := Lib.hid hown; have HI := Lib.hid hidx; have HS := Lib.hid hstep; have HC := Lib.hid hC; have HCW := Lib.hid hcw; have HL := Lib.hid hlen
  clear hown hidx hstep hC hcw hlen
  cases hf : (List.range n).find? (fun i => p (l.getD i default)) with
  | none =>
    have h1 : firstIdx (fun i => p (l.getD i default)) n = -1 := by rw [firstIdx, hf]
    have h2 : l.filter (fun x => !p x) = l := by
      rw [List.filter_eq_self]
      intro x hx
      obtain ⟨i, hi, rfl⟩ := List.getElem_of_mem hx
      rw [List.find?_eq_none] at hf
      have := hf i (List.mem_range.2 (by have := HL.out; omega))
      rw [getD_of (List.getElem?_eq_getElem hi)] at this
      simpa using this
    rw [h1] at HI
    clear hf h1
    have H2 := Lib.hid h2
    clear h2
    go_enter Try.func52, Try.ntmps52
    go_wp2_with (go_at_call 50; refine (HI.out).mono ?_; rintro e w1 ⟨rfl, hb1⟩)
    go_ret
    exact ⟨n, rfl, by rw [H2.out]; exact own_below HO.out hb1, grown_of_below hb1 _⟩
  | some i =>
    have h1 : firstIdx (fun i => p (l.getD i default)) n = (i : Int) := by rw [firstIdx, hf]
    have hin : i < n := List.mem_range.1 (List.mem_of_find?_eq_some hf)
    have hpi := List.find?_some hf
    have hbefore : ∀ j, j < i → p (l.getD j default) = false := by
      intro j hj
      have := (List.find?_range_eq_some.1 hf).2.2 j hj
      simpa using this
    rw [h1] at HI
    have H0 : Hid ((l.take (i + 1)).filter (fun x => !p x) = l.take i) := by
      obtain ⟨x, hx⟩ : ∃ x, l[i]? = some x := ⟨_, List.getElem?_eq_getElem (by have := HL.out; omega)⟩
      have e1 : p x = true := by rw [getD_of hx] at hpi; exact hpi
      rw [Hid, filter_take_no _ hx (by simp [e1])]
      rw [List.filter_eq_self]
      intro y hy
      obtain ⟨j, hj, rfl⟩ := List.getElem_of_mem hy
      rw [List.length_take] at hj
      have := hbefore j (by omega)
      rw [List.getElem_take]
      rw [getD_of (List.getElem?_eq_getElem (by omega))] at this
      simp [this]
    clear hf h1 hpi hbefore
    go_enter Try.func52, Try.ntmps52
    have hne : ((i : Int) == -1) = false := by simp
    go_wp2_with (go_at_call 50; refine (HI.out).mono ?_; rintro e w1 ⟨rfl, hb1⟩)
    go_loopw [5, 6] (fun va vk W => ∃ a k : Nat, va = .int .i64 a ∧ vk = .int .i64 k ∧ a < k ∧ k ≤ n ∧ ∃ L : List Lk, L.length = n ∧ W.ownsRow base 34 3 (.slice (some ⟨gb, 0, none⟩) n c) n (flatE lkc L) ∧
        L.take a = (l.take k).filter (fun x => !p x) ∧ L.drop k = l.drop k ∧ w.grownBy W (some gb) ∧ C W) (fun _ vk _ => n - (intOf vk).toNat)
    case atStart =>
      refine ⟨i, i + 1, rfl, by go_num, by omega, by omega, l, HL.out, own_below HO.out hb1, H0.out.symm, rfl, grown_of_below hb1 _, HCW.out _ _ h0 hb1⟩
    case round =>
      obtain ⟨a, k, rfl, rfl, hak, hk, L, hL, hown, htk, hdr, hgr, hCr⟩ := hrel
      have HOW := Lib.hid hown; have HT := Lib.hid htk; have HD := Lib.hid hdr; have HG := Lib.hid hgr; have HLL := Lib.hid hL
      clear hown htk hdr hgr hL
      by_cases hlt : k < n
      · obtain ⟨x, hx⟩ : ∃ x, l[k]? = some x := ⟨_, List.getElem?_eq_getElem (by have := HL.out; omega)⟩
        have hxL : L[k]? = some x := by
          have e1 : (L.drop k)[0]? = (l.drop k)[0]? := by rw [HD.out]
          simpa [hx] using e1
        have hc0 : wr.cell? ⟨gb, k * 3, none⟩ = some (.int .i64 x.f) := by rw [HOW.out.cellAt _ (by omega)]; exact flatE_at lkc_len hxL (j := 0) (by decide)
        have hc1 : wr.cell? ⟨gb, k * 3 + 1, none⟩ = some (.int .i64 x.t) := by rw [HOW.out.cellAt _ (by omega)]; exact flatE_at lkc_len hxL (j := 1) (by decide)
        have hc2 : wr.cell? ⟨gb, k * 3 + 2, none⟩ = some (.int .i64 x.c) := by rw [HOW.out.cellAt _ (by omega)]; exact flatE_at lkc_len hxL (j := 2) (by decide)
        have HX := Lib.hid hx; have HXL := Lib.hid hxL
        clear hx hxL
        have hcall : ∀ W, Below wr.heap.size wr W → Calls Try.prog g (#[.agg #[.int .i64 x.f, .int .i64 x.t, .int .i64 x.c]] ++ cap) W fun e W' => e = .returned (.bool (p x)) ∧ Below W.heap.size W W' := fun W hb => HS.out x W (HCW.out _ _ hCr hb)
        have HK := Lib.hid hcall
        clear hcall
        cases hpx : p x
        all_goals
          have HP := Lib.hid hpx
          rw [hpx] at HK
          clear hpx
          go_wp2_with (go_at_call 0; fail)
        · refine (HK.out _ ((Below.refl _ _).alloc (Nat.le_refl _) _)).mono ?_
          rintro e w2 ⟨rfl, hb2⟩
          have hb20 : Below wr.heap.size wr w2 := ((Below.refl _ wr).alloc (Nat.le_refl _) _).trans (hb2.mono (by simp))
          have hbx0 : w2.cell? ⟨wr.heap.size, 0, none⟩ = some (.int .i64 x.f) := (hb2.cell (p := ⟨wr.heap.size, 0, none⟩) (by simp)).trans (by simp)
          have hbx1 : w2.cell? ⟨wr.heap.size, 1, none⟩ = some (.int .i64 x.t) := (hb2.cell (p := ⟨wr.heap.size, 1, none⟩) (by simp)).trans (by simp)
          have hbx2 : w2.cell? ⟨wr.heap.size, 2, none⟩ = some (.int .i64 x.c) := (hb2.cell (p := ⟨wr.heap.size, 2, none⟩) (by simp)).trans (by simp)
          have hown2 := own_below HOW.out hb20
          obtain ⟨y, hy⟩ : ∃ y, L[a]? = some y := ⟨_, List.getElem?_eq_getElem (by have := HLL.out; omega)⟩
          have hd0 : w2.cell? ⟨gb, a * 3, none⟩ = some (.int .i64 y.f) := by rw [hown2.cellAt _ (by omega)]; exact flatE_at lkc_len hy (j := 0) (by decide)
          have hd1 : w2.cell? ⟨gb, a * 3 + 1, none⟩ = some (.int .i64 y.t) := by rw [hown2.cellAt _ (by omega)]; exact flatE_at lkc_len hy (j := 1) (by decide)
          have hd2 : w2.cell? ⟨gb, a * 3 + 2, none⟩ = some (.int .i64 y.c) := by rw [hown2.cellAt _ (by omega)]; exact flatE_at lkc_len hy (j := 2) (by decide)
          have hf0 : w2.frozen? ⟨gb, a * 3, none⟩ = false := hown2.frozenAt _
          have hf1 : w2.frozen? ⟨gb, a * 3 + 1, none⟩ = false := hown2.frozenAt _
          have hf2 : w2.frozen? ⟨gb, a * 3 + 2, none⟩ = false := hown2.frozenAt _
          have HO2 := Lib.hid hown2
          clear hown2 hy
          go_wp2
          go_roundw
          case rel =>
            have h4 := own_set3 (a := a) (x := x) HO2.out (by have := HLL.out; omega)
            have hg3 : wr.grownBy (((w2.setCell ⟨gb, a * 3, none⟩ (.int .i64 x.f)).setCell ⟨gb, a * 3 + 1, none⟩ (.int .i64 x.t)).setCell ⟨gb, a * 3 + 2, none⟩ (.int .i64 x.c)) (some gb) :=
              grown_trans (grown_of_below hb20 _) (grown_set3 _ _ _ _ _ _)
            refine ⟨a + 1, k + 1, by go_num, by go_num, by omega, by omega, L.set a x, by rw [List.length_set]; exact HLL.out, h4, ?_, ?_, grown_trans HG.out hg3, HC.out _ _ hCr hg3⟩
            · rw [set_take (by have := HLL.out; omega), HT.out, filter_take_yes _ HX.out (by rw [HP.out]; rfl)]
            · rw [set_drop (by omega), ← List.drop_drop (i := 1) (j := k), HD.out, List.drop_drop]
          case measure => simp [intOf]; omega
        · refine (HK.out _ ((Below.refl _ _).alloc (Nat.le_refl _) _)).mono ?_
          rintro e w2 ⟨rfl, hb2⟩
          have hb20 : Below wr.heap.size wr w2 := ((Below.refl _ wr).alloc (Nat.le_refl _) _).trans (hb2.mono (by simp))
          go_wp2
          go_roundw
          case rel =>
            refine ⟨a, k + 1, rfl, by go_num, by omega, by omega, L, HLL.out, own_below HOW.out hb20, ?_, ?_, grown_trans HG.out (grown_of_below hb20 _), HCW.out _ _ hCr hb20⟩
            · rw [HT.out, filter_take_no _ HX.out (by rw [HP.out]; rfl)]
            · rw [← List.drop_drop (i := 1) (j := k), HD.out, List.drop_drop]
          case measure => simp [intOf]; omega
      · have hkn : n = k := by omega
        subst hkn
        have hclr := run_clear_links wr 0 gb (a * 3) (n - a) (c - a) (by omega)
          (fun j hj => by
            have hj' : a * 3 + j < n * 3 := by omega
            rw [HOW.out.cellAt _ hj', List.getElem?_eq_getElem (by rw [flatE_length lkc_len, HLL.out]; exact hj')]; rfl)
          (fun j hj => HOW.out.frozenAt _)
        go_wp2
        go_ret
        have hfin := own_cleared HOW.out (Nat.le_of_lt hak) (Builtin.zeroCells #[.int .i64 0, .int .i64 0, .int .i64 0] (n - a)).toList
        rw [HT.out, List.take_of_length_le (by have := HL.out; omega)] at hfin
        exact ⟨a, rfl, hfin, grown_trans HG.out (grown_setCells _ _ _)⟩
end Go.Proofs.Ytmdcfiejkbhgpaa
