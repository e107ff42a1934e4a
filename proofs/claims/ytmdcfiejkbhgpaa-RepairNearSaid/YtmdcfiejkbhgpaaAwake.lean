/-
  awake of the laws of spf.
-/
import Derived.Test.YtmdcfiejkbhgpaaCert
import Derived.Test.YtmdcfiejkbhgpaaCost
namespace Go.Proofs.Ytmdcfiejkbhgpaa
open Go.RowKit

/-- the call gives a row that reads as these numbers -/
def GivesI (w : World) (xs : List Int) (e : Ending) (w' : World) : Prop := ∃ A c, e = .returned (.slice A xs.length c) ∧ Rd intc 1 w' A xs.length xs ∧ Below w.heap.size w w'
theorem givesI_of {w w' : World} {v : Value} {xs : List Int} (h : IntsAt w' w.heap.size v xs) (hb : Below w.heap.size w w') : GivesI w xs (.returned v) w' := by
  obtain ⟨A, c, rfl, hr⟩ := h.rd
  exact ⟨A, c, rfl, hr, hb⟩
noncomputable def distV (n : Int) (l : List Lk) (s : Int) : List Int := if rightG n l s = true then (nodes n).map (D l s) else []
theorem cells_row (Z : Int → Int) (N : Nat) : cellsN Z N = ints ((nodes N).map Z) := by
  unfold cellsN ints nodes
  simp [List.map_map, Function.comp_def]
theorem givesI_dist {w w' : World} {n : Int} {l : List Lk} {s : Int} {e : Ending} (h : GivesD w n l s e w') : GivesI w (distV n l s) e w' := by
  unfold GivesD at h
  unfold distV
  split at h
  · rename_i hg
    rw [if_pos hg]
    obtain ⟨b, rfl, hrow, hb⟩ := h
    obtain ⟨N, hN⟩ : ∃ N : Nat, n = N := ⟨n.toNat, by have := (rightG_ok.1 hg).1.n1; omega⟩
    subst hN
    rw [Int.toNat_natCast] at *
    unfold RowZ at hrow
    rw [cells_row] at hrow
    refine givesI_of ?_ hb
    unfold IntsAt
    have e : ((nodes (N : Int)).map (D l s)).length = N := by rw [List.length_map, nodes_len]; omega
    rw [e]
    exact hrow
  · rename_i hg
    rw [if_neg hg]
    obtain ⟨rfl, hb⟩ := h
    exact givesI_of (intsAt_nil _ _) hb
/-- what Ints tells of two of them -/
theorem ints_any {w : World} {A E : Option Addr} {m k c d : Nat} {a b : List Int} (ha : Rd intc 1 w A m a) (hb : Rd intc 1 w E k b) (hm : m ≤ 1000000) (hk : k ≤ 1000000) (r : Bool) (hr : decide (a = b) = r) :
    Calls Try.prog 15 #[.slice A m c, .slice E k d] w fun e w' => e = .returned (.bool r) ∧ Below w.heap.size w w' := by
  subst hr
  exact rints_any ha hb hm hk
theorem rd_l0 (w : World) : Rd lkc 3 (w.alloc (.cells #[.int .i64 0, .int .i64 1, .int .i64 1, .int .i64 1, .int .i64 2, .int .i64 1, .int .i64 0, .int .i64 2, .int .i64 2] 34)) (some ⟨w.heap.size, 0, none⟩) 3 l0 := by
  refine ⟨rfl, fun i x hx => ⟨w.heap.size, 0, rfl, fun j u hu => ?_⟩⟩
  have hi : i < 3 := (List.getElem?_eq_some_iff.1 hx).1
  have hj : j < 3 := (List.getElem?_eq_some_iff.1 hu).1
  match i, j, hi, hj with
  | 0, 0, _, _ => cases hx; cases hu; simp
  | 0, 1, _, _ => cases hx; cases hu; simp
  | 0, 2, _, _ => cases hx; cases hu; simp
  | 1, 0, _, _ => cases hx; cases hu; simp
  | 1, 1, _, _ => cases hx; cases hu; simp
  | 1, 2, _, _ => cases hx; cases hu; simp
  | 2, 0, _, _ => cases hx; cases hu; simp
  | 2, 1, _, _ => cases hx; cases hu; simp
  | 2, 2, _, _ => cases hx; cases hu; simp
theorem dist0 : distV 4 l0 0 = [0, 1, 2, -1] := by
  unfold distV
  rw [if_pos (by decide +kernel)]
  have e : (nodes 4).map (D l0 0) = (nodes 4).map (F0 0) := List.map_congr_left fun v hv => D_certs g0 c0 (by decide) (mem_nodes.1 hv)
  rw [e]
  decide +kernel

set_option maxRecDepth 100000 in
set_option maxHeartbeats 8000000 in
theorem awake_any (w : World) : Calls Try.prog 12 #[] w fun e w' => e = .returned (.bool true) ∧ Below w.heap.size w w' := by
  have HL := Lib.hid (rd_l0 w)
  have HB := Lib.hid (below_al1 w (.cells #[.int .i64 0, .int .i64 1, .int .i64 1, .int .i64 1, .int .i64 2, .int .i64 1, .int .i64 0, .int .i64 2, .int .i64 2] 34))
  go_enter Try.func12, Try.ntmps12
  go_wp2_with fail
  have hb1 := below_al1 (w.alloc (.cells #[.int .i64 0, .int .i64 1, .int .i64 1, .int .i64 1, .int .i64 2, .int .i64 1, .int .i64 0, .int .i64 2, .int .i64 2] 34)) (.cells #[.int .i64 0, .int .i64 1, .int .i64 2] 3)
  have hco := costw_any (c := 3) (d := 3) (HL.out.below hb1) (rd_ints (w.alloc (.cells #[.int .i64 0, .int .i64 1, .int .i64 1, .int .i64 1, .int .i64 2, .int .i64 1, .int .i64 0, .int .i64 2, .int .i64 2] 34)) [0, 1, 2]) small0 (by decide) (by decide) (by decide)
  rw [cost0, show (w.alloc (.cells #[.int .i64 0, .int .i64 1, .int .i64 1, .int .i64 1, .int .i64 2, .int .i64 1, .int .i64 0, .int .i64 2, .int .i64 2] 34)).heap.size = w.heap.size + 1 by simp] at hco
  refine (hco).mono ?_
  rintro e w1 ⟨rfl, hb2⟩
  have HW1 := Lib.hid (HB.out.trans ((hb1.trans (hb2.mono hb1.size)).mono HB.out.size))
  have HL1 := Lib.hid (HL.out.below (hb1.trans (hb2.mono hb1.size)))
  clear hco hb1 hb2 HB HL
  go_wp2_with fail
  have hq := check_any (c := 3) HL1.out 4 (by decide)
  rw [chk0] at hq
  refine (hq).mono ?_
  rintro e w2 ⟨rfl, hb⟩
  have HW2 := Lib.hid (HW1.out.trans ((hb).mono HW1.out.size))
  have HL2 := Lib.hid (HL1.out.below (hb))
  clear hq hb HW1 HL1
  go_wp2_with fail
  have hq := Dist_any (c := 3) HL2.out 4 0 (by decide)
  refine (hq).mono ?_
  rintro e w3 hgi
  replace hgi := givesI_dist hgi; rw [dist0] at hgi
  obtain ⟨A, c, he, hra, hb⟩ := hgi
  cases he
  have HW3 := Lib.hid (HW2.out.trans ((hb).mono HW2.out.size))
  have HL3 := Lib.hid (HL2.out.below (hb))
  have HRA := Lib.hid hra
  clear hq hb hra HW2 HL2
  simp only [List.length_cons, List.length_nil, Nat.zero_add, Nat.reduceAdd]
  go_wp2_with fail
  have hb1 := below_al1 w3 (.cells (ints [0, 1, 2, -1]).toArray 3)
  have hq := ints_any (c := c) (d := 4) (HRA.out.below hb1) (rd_ints w3 [0, 1, 2, -1]) (by decide) (by decide) true (by decide)
  refine (hq).mono ?_
  rintro e w4 ⟨rfl, hb2⟩
  have HW4 := Lib.hid (HW3.out.trans ((hb1.trans (hb2.mono hb1.size)).mono HW3.out.size))
  have HL4 := Lib.hid (HL3.out.below (hb1.trans (hb2.mono hb1.size)))
  clear hq hb1 hb2 HRA HW3 HL3
  go_wp2_with fail
  have hq := Next_any (c := 3) HL4.out 4 0 2 (by decide)
  refine (hq).mono ?_
  rintro e w5 hgi
  obtain ⟨v, rfl, h1, h2⟩ := hgi; rw [next0] at h1; have hgi := givesI_of h1 h2; clear h1 h2
  obtain ⟨A, c, he, hra, hb⟩ := hgi
  cases he
  have HW5 := Lib.hid (HW4.out.trans ((hb).mono HW4.out.size))
  have HL5 := Lib.hid (HL4.out.below (hb))
  have HRA := Lib.hid hra
  clear hq hb hra HW4 HL4
  simp only [List.length_cons, List.length_nil, Nat.zero_add, Nat.reduceAdd]
  go_wp2_with fail
  have hb1 := below_al1 w5 (.cells (ints [1, 2]).toArray 3)
  have hq := ints_any (c := c) (d := 2) (HRA.out.below hb1) (rd_ints w5 [1, 2]) (by decide) (by decide) true (by decide)
  refine (hq).mono ?_
  rintro e w6 ⟨rfl, hb2⟩
  have HW6 := Lib.hid (HW5.out.trans ((hb1.trans (hb2.mono hb1.size)).mono HW5.out.size))
  have HL6 := Lib.hid (HL5.out.below (hb1.trans (hb2.mono hb1.size)))
  clear hq hb1 hb2 HRA HW5 HL5
  go_wp2_with fail
  have hq := path_any (c := 3) HL6.out 4 0 2 (by decide)
  refine (hq).mono ?_
  rintro e w7 hgi
  obtain ⟨v, rfl, h1, h2⟩ := hgi; rw [path0] at h1; have hgi := givesI_of h1 h2; clear h1 h2
  obtain ⟨A, c, he, hra, hb⟩ := hgi
  cases he
  have HW7 := Lib.hid (HW6.out.trans ((hb).mono HW6.out.size))
  have HL7 := Lib.hid (HL6.out.below (hb))
  have HRA := Lib.hid hra
  clear hq hb hra HW6 HL6
  simp only [List.length_cons, List.length_nil, Nat.zero_add, Nat.reduceAdd]
  go_wp2_with fail
  have hb1 := below_al1 w7 (.cells (ints [0, 1, 2]).toArray 3)
  have hq := ints_any (c := c) (d := 3) (HRA.out.below hb1) (rd_ints w7 [0, 1, 2]) (by decide) (by decide) true (by decide)
  refine (hq).mono ?_
  rintro e w8 ⟨rfl, hb2⟩
  have HW8 := Lib.hid (HW7.out.trans ((hb1.trans (hb2.mono hb1.size)).mono HW7.out.size))
  have HL8 := Lib.hid (HL7.out.below (hb1.trans (hb2.mono hb1.size)))
  clear hq hb1 hb2 HRA HW7 HL7
  go_wp2_with fail
  refine (without_any (c := 3) HL8.out 2 1 (by decide)).mono ?_
  rintro e w9 ⟨v, rfl, hv, hb⟩
  obtain ⟨A, c, rfl, -⟩ := hv.rd
  rw [wo0]
  have HW9 := Lib.hid (HW8.out.trans ((hb).mono HW8.out.size))
  have HL9 := Lib.hid (HL8.out.below (hb))
  clear hb hv HW8 HL8
  go_wp2_with fail
  have hq := Uses_any (c := 3) HL9.out 4 0 2 0 2 (by decide)
  rw [use0] at hq
  refine (hq).mono ?_
  rintro e w10 ⟨rfl, hb⟩
  have HW10 := Lib.hid (HW9.out.trans ((hb).mono HW9.out.size))
  have HL10 := Lib.hid (HL9.out.below (hb))
  clear hq hb HW9 HL9
  go_wp2_with fail
  have hq := Uses_any (c := 3) HL10.out 4 0 1 0 2 (by decide)
  rw [use1] at hq
  refine (hq).mono ?_
  rintro e w11 ⟨rfl, hb⟩
  have HW11 := Lib.hid (HW10.out.trans ((hb).mono HW10.out.size))
  have HL11 := Lib.hid (HL10.out.below (hb))
  clear hq hb HW10 HL10
  go_wp2_with fail
  have hq := check_any (w := w11) (A := none) (c := 0) (Rd.nil _ _) 0 (by decide)
  rw [chk1] at hq
  refine (hq).mono ?_
  rintro e w12 ⟨rfl, hb⟩
  have HF := Lib.hid (HW11.out.trans (hb.mono HW11.out.size))
  clear hq hb
  go_wp2_with fail
  go_ret
  exact ⟨rfl, HF.out⟩
end Go.Proofs.Ytmdcfiejkbhgpaa
