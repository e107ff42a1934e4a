/-
  The law GroupNorm is true, whatever the ways and the hop.
-/
import Derived.Test.YtepbchgjnhnhjaaTells
import Derived.Deep.RegionHeld3
namespace Go.Proofs.Ytepbchgjnhnhjaa
open Go.RowKit
namespace Grp
theorem share_eq (l : List W) (hop : Int) : share l hop = ((l.find? fun w => w.1 == hop).map (·.2)).getD 0 := by
  cases hf : l.find? (fun w => w.1 == hop) with
  | none =>
    have h1 : shareAt l hop = -1 := firstIdx_none fun i hi => by
      rw [getD_of (List.getElem?_eq_getElem hi)]
      have := List.find?_eq_none.1 hf _ (List.getElem_mem hi)
      simpa using this
    rw [share, h1, if_pos (by omega)]
    rfl
  | some b =>
    obtain ⟨h1, i, hi, h2, h3⟩ := List.find?_eq_some_iff_getElem.1 hf
    have h4 : shareAt l hop = i := firstIdx_some hi (by rw [getD_of (List.getElem?_eq_getElem hi), h2]; exact h1) fun j hj => by
      rw [getD_of (List.getElem?_eq_getElem (by omega))]
      have := h3 j hj
      simpa using this
    rw [share, h4, if_neg (by omega), Int.toNat_natCast, getD_of (List.getElem?_eq_getElem hi), h2]
    rfl
theorem share_cons (x : W) (l : List W) (hop : Int) : share (x :: l) hop = if x.1 == hop then x.2 else share l hop := by
  rw [share_eq, share_eq, List.find?_cons]
  cases x.1 == hop <;> simp
theorem sumW_cons (x : W) (l : List W) : sumW (x :: l) = x.2 + sumW l := by simp [sumW]

theorem hops_of {l : List W} (h : check l = 0) : l.Pairwise fun x y => x.1 ≠ y.1 := by
  rw [List.pairwise_iff_getElem]
  intro i j hi hj hij he
  have ht : twice l = false := by
    unfold check at h
    split at h
    · cases h
    · split at h
      · cases h
      · rename_i h2
        simpa using h2
  have h1 := List.any_eq_false.1 ht j (List.mem_range.2 hj)
  apply h1
  refine List.any_eq_true.2 ⟨l[i], ?_, ?_⟩
  · refine List.mem_of_getElem? (i := i) ?_
    rw [List.getElem?_take, if_pos hij, List.getElem?_eq_getElem hi]
  · rw [getD_of (List.getElem?_eq_getElem hj)]
    simpa using he

theorem share_none {l : List W} {hop : Int} (h : ∀ x ∈ l, x.1 ≠ hop) : share l hop = 0 := by
  have : l.find? (fun w => w.1 == hop) = none := by
    rw [List.find?_eq_none]
    intro x hx
    simpa using h x hx
  rw [share_eq, this]
  rfl
theorem without_share (l : List W) (hop : Int) : share (without l hop) hop = 0 :=
  share_none fun x hx => by
    have := (List.mem_filter.1 hx).2
    simpa using this
theorem without_sum {l : List W} (hop : Int) (h : l.Pairwise fun x y => x.1 ≠ y.1) : sumW (without l hop) = sumW l - share l hop := by
  induction l with
  | nil => simp [without, sumW, share_none]
  | cons x l ih =>
    rw [List.pairwise_cons] at h
    have ih := ih h.2
    rw [share_cons, sumW_cons]
    unfold without at ih ⊢
    rw [List.filter_cons]
    by_cases hx : x.1 = hop
    · have h0 : share l hop = 0 := share_none fun y hy he => h.1 y hy (hx.trans he.symm)
      simp only [hx, beq_self_eq_true, Bool.not_true, Bool.false_eq_true, if_false, if_true]
      omega
    · have hb : (x.1 == hop) = false := by simpa using hx
      simp only [hb, Bool.not_false, if_true, Bool.false_eq_true, if_false, sumW_cons]
      omega
theorem total_small {l : List W} (h : ∀ x ∈ l, 0 ≤ x.2 ∧ x.2 ≤ 255) (hn : l.length ≤ 16) : total l = sumW l ∧ 0 ≤ sumW l ∧ sumW l ≤ 4080 := by
  suffices h' : ∀ k, k ≤ l.length → total (l.take k) = sumW (l.take k) ∧ 0 ≤ sumW (l.take k) ∧ sumW (l.take k) ≤ 255 * k by
    have := h' l.length (Nat.le_refl _)
    rw [List.take_length] at this
    omega
  intro k
  induction k with
  | zero => simp [total, sumW]
  | succ k ih =>
    intro hk
    obtain ⟨x, hx⟩ : ∃ x, l[k]? = some x := ⟨_, List.getElem?_eq_getElem (by omega)⟩
    have h1 := h x (List.mem_of_getElem? hx)
    obtain ⟨h2, h3, h4⟩ := ih (by omega)
    rw [take_snoc hx, sumW_snoc, total_snoc, h2]
    refine ⟨?_, by omega, by omega⟩
    unfold wrap64
    omega

theorem div_of {l : List W} (_ : check l = 0) {x : W} (hx : x ∈ l) : x.2 / normBy l * normBy l = x.2 := Int.ediv_mul_cancel (normBy_dvd l x hx)

section
variable {l : List W} (h : check l = 0)
include h
theorem norm_val : norm l = l.map fun x => (x.1, x.2 / normBy l) := by rw [norm, if_pos h]
theorem norm_bd {x : W} (hx : x ∈ l) : 1 ≤ x.2 / normBy l ∧ x.2 / normBy l ≤ 255 := by
  have h1 := div_of h hx
  have h2 := wrong_of h hx
  have h3 := normBy_pos h
  constructor
  · by_cases h4 : x.2 / normBy l ≤ 0
    · have := Int.mul_le_mul_of_nonneg_right h4 (show 0 ≤ normBy l by omega)
      omega
    · omega
  · exact Int.le_trans (Int.ediv_le_self _ (by omega)) (by omega)
theorem norm_check : check (norm l) = 0 := by
  rw [norm_val h]
  have hlen := len_of h
  have hw : (l.map fun x : W => (x.1, x.2 / normBy l)).any wrong = false := by
    refine List.any_eq_false.2 fun y hy => ?_
    obtain ⟨x, hx, rfl⟩ := List.mem_map.1 hy
    have h1 := norm_bd h hx
    have h2 := wrong_of h hx
    simp only [wrong, Bool.or_eq_true, decide_eq_true_eq]
    omega
  have ht : twice (l.map fun x : W => (x.1, x.2 / normBy l)) = false := by
    refine List.any_eq_false.2 fun j hj => ?_
    rw [List.mem_range, List.length_map] at hj
    have hp := List.pairwise_iff_getElem.1 (hops_of h)
    intro hd
    obtain ⟨y, hy, he⟩ := List.any_eq_true.1 hd
    obtain ⟨i, hi, rfl⟩ := List.getElem_of_mem hy
    rw [List.length_take, List.length_map] at hi
    rw [getD_of (List.getElem?_eq_getElem (by rw [List.length_map]; exact hj)), List.getElem_take, List.getElem_map, List.getElem_map] at he
    exact hp i j (by omega) hj (by omega) (by simpa using he)
  exact check_0 (by rw [List.length_map]; omega) (by rw [List.length_map]; omega) hw ht
theorem norm_sum : sumW (norm l) * normBy l = sumW l := by
  rw [norm_val h]
  have : ∀ m : List W, (∀ x ∈ m, x ∈ l) → sumW (m.map fun x => (x.1, x.2 / normBy l)) * normBy l = sumW m := by
    intro m
    induction m with
    | nil => intro _; simp [sumW]
    | cons x m ih =>
      intro hm
      rw [List.map_cons, sumW_cons, sumW_cons, Int.add_mul, ih fun y hy => hm y (List.mem_cons_of_mem _ hy)]
      rw [div_of h (hm x List.mem_cons_self)]
  exact this l fun _ hx => hx
theorem norm_share (hop : Int) : share (norm l) hop * normBy l = share l hop := by
  rw [norm_val h]
  have : ∀ m : List W, (∀ x ∈ m, x ∈ l) → share (m.map fun x => (x.1, x.2 / normBy l)) hop * normBy l = share m hop := by
    intro m
    induction m with
    | nil => intro _; simp [share_none]
    | cons x m ih =>
      intro hm
      rw [List.map_cons, share_cons, share_cons]
      split
      · exact div_of h (hm x List.mem_cons_self)
      · exact ih fun y hy => hm y (List.mem_cons_of_mem _ hy)
  exact this l fun _ hx => hx
theorem norm_by : normBy (norm l) = 1 := by
  have hn := norm_check h
  have hp := normBy_pos h
  have hq := normBy_pos hn
  have h1 : normBy (norm l) * normBy l ∣ normBy l := by
    refine normBy_max l _ fun x hx => ?_
    rw [← div_of h hx]
    refine Int.mul_dvd_mul ?_ (Int.dvd_refl _)
    refine normBy_dvd (norm l) (x.1, x.2 / normBy l) ?_
    rw [norm_val h]
    exact List.mem_map.2 ⟨x, hx, rfl⟩
  have h2 := Int.le_of_dvd (by omega) h1
  by_cases h3 : normBy (norm l) = 1
  · exact h3
  · have := Int.mul_le_mul_of_nonneg_right (show 2 ≤ normBy (norm l) by omega) (show 0 ≤ normBy l by omega)
    omega
theorem norm_norm : norm (norm l) = norm l := by
  rw [norm_val (norm_check h), norm_by h]
  simp
theorem share_bd (hop : Int) : 0 ≤ share l hop ∧ share l hop ≤ 255 := by
  rw [share_eq]
  cases hf : l.find? (fun w => w.1 == hop) with
  | none => simp
  | some b => have := wrong_of h (List.mem_of_find?_eq_some hf); simp; omega
theorem norm_cross (hop : Int) : share l hop * sumW (norm l) = share (norm l) hop * sumW l := by
  rw [← norm_share h hop, ← norm_sum h, Int.mul_assoc, Int.mul_comm (normBy l)]
theorem cross_bd (hop : Int) : 0 ≤ share l hop * sumW (norm l) ∧ share l hop * sumW (norm l) ≤ 1040400 := by
  have h1 := share_bd h hop
  have h2 := sumW_all_bd (norm_check h)
  have := Int.mul_le_mul h1.2 h2.2 (by omega) (by omega)
  exact ⟨Int.mul_nonneg h1.1 (by omega), by omega⟩
end
end Grp

set_option maxHeartbeats 4000000 in
theorem norm_law (A : Option Addr) (n c : Nat) (l : List (Int × Int)) (hop : Int) (w : World) (hg : Given w A n c l) :
    Calls Try.prog 5 #[.slice A n c, .int .i64 hop] w fun e w' => e = .returned (.bool true) ∧ Below w.heap.size w w' := by
  have haw := awake_any w
  have HA := Lib.hid haw
  clear haw
  by_cases h16 : (16 : Int) < (n : Int)
  · clear hg
    go_enter Try.func5, Try.ntmps5
    go_wp2_with (go_at_call 7; refine (HA.out).mono ?_; rintro e w1 ⟨rfl, hb1⟩)
    go_ret
    exact ⟨rfl, hb1⟩
  have hc := hg.cap
  have e1 : From w 8 #[.slice A n c] (.int .i64 (Grp.check l)) := from_ fun V hV => check_any A n c l V (hg.ways.below hV) (by omega) hc
  have E1 := Lib.hid e1
  clear e1
  by_cases h0 : Grp.check l = 0
  · rw [h0] at E1
    have e2 : ∀ W, Below w.heap.size w W → Calls Try.prog 19 #[.slice A n c] W fun e W' => ∃ B d, e = .returned (.slice B n d) ∧ n ≤ d ∧ Ways W' B n (Grp.norm l) ∧ Below W.heap.size W W' := by
      intro W hW
      refine (norm_any A n c l W (hg.ways.below hW) (by omega) hc).mono ?_
      rintro e W' ⟨B, d, he, hd, hw, hb⟩
      have hln : (Grp.norm l).length = n := by rw [Grp.norm_val h0, List.length_map]; exact hg.ways.1
      rw [hln] at he hd hw
      exact ⟨B, d, he, hd, hw, hb⟩
    have HG := Lib.hid hg; have H0 := Lib.hid h0; have E2 := Lib.hid e2
    clear e2 h0 hg
    go_enter Try.func5, Try.ntmps5
    go_wp2_with fail
    refine (HA.out).mono ?_
    rintro e w1 ⟨rfl, hb1⟩
    go_wp2_with fail
    refine (E1.out _ hb1).mono ?_
    rintro e w2 ⟨rfl, hb2⟩
    go_wp2_with fail
    refine (E2.out _ hb2).mono ?_
    rintro e w3 ⟨B, d, rfl, hnd, hnw, hb3⟩
    have hb3' := hb2.trans (hb3.mono hb2.size)
    have hwl := (HG.out.ways.below hb3')
    have hsa := Grp.sumW_all_bd H0.out
    have hsb := Grp.sumW_all_bd (Grp.norm_check H0.out)
    have hle : ¬ Grp.sumW l < Grp.sumW (Grp.norm l) := by
      have h1 := Grp.norm_sum H0.out
      have h2 := (Grp.normBy_pos H0.out).1
      have h3 := Int.mul_le_mul_of_nonneg_left h2 (show 0 ≤ Grp.sumW (Grp.norm l) by omega)
      omega
    have f1 : From w3 10 #[.slice A n c] (.int .i64 (Grp.sumW l)) := from_ fun V hV => by
      have := total_any A n c l V (hwl.below hV) (by omega)
      rwa [Grp.total_eq H0.out] at this
    have f2 : From w3 10 #[.slice B n d] (.int .i64 (Grp.sumW (Grp.norm l))) := from_ fun V hV => by
      have := total_any B n d (Grp.norm l) V (hnw.below hV) (by omega)
      rwa [Grp.total_eq (Grp.norm_check H0.out)] at this
    have f3 : From w3 8 #[.slice B n d] (.int .i64 0) := from_ fun V hV => by
      have := check_any B n d (Grp.norm l) V (hnw.below hV) (by omega) hnd
      rwa [Grp.norm_check H0.out] at this
    have f4 : ∀ W, Below w3.heap.size w3 W → Calls Try.prog 19 #[.slice B n d] W fun e W' => ∃ B2 d2, e = .returned (.slice B2 n d2) ∧ Below w3.heap.size w3 W' ∧
        Calls Try.prog 16 #[.slice B2 n d2, .slice B n d] W' fun e W' => e = .returned (.bool true) ∧ Below w3.heap.size w3 W' := by
      intro W hW
      refine (norm_any B n d (Grp.norm l) W (hnw.below hW) (by omega) hnd).mono ?_
      rintro e W' ⟨B2, d2, he, hd, hw, hb⟩
      rw [Grp.norm_norm H0.out] at he hd hw
      have hln : (Grp.norm l).length = n := by rw [Grp.norm_val H0.out, List.length_map]; exact HG.out.ways.1
      rw [hln] at he hd hw
      have hbb := hW.trans (hb.mono hW.size)
      refine ⟨B2, d2, he, hbb, ?_⟩
      have := refSame_any B2 B n n d2 d (Grp.norm l) (Grp.norm l) W' hw (hnw.below hbb) (by omega)
      rw [decide_eq_true rfl] at this
      exact this.mono fun _ _ ⟨he, hb⟩ => ⟨he, hbb.trans (hb.mono hbb.size)⟩
    have f5 : ∀ (h : Int) W, Below w3.heap.size w3 W → Calls Try.prog 14 #[.slice A n c, .int .i64 h] W fun e W' => e = .returned (.int .i64 (Grp.share l h)) ∧ Below w3.heap.size w3 W' := fun h W hW =>
      (share_any A n c l h W (hwl.below hW) (by omega)).mono fun _ _ ⟨he, hb⟩ => ⟨he, hW.trans (hb.mono hW.size)⟩
    have f6 : ∀ (h : Int) W, Below w3.heap.size w3 W → Calls Try.prog 14 #[.slice B n d, .int .i64 h] W fun e W' => e = .returned (.int .i64 (Grp.share (Grp.norm l) h)) ∧ Below w3.heap.size w3 W' := fun h W hW =>
      (share_any B n d (Grp.norm l) h W (hnw.below hW) (by omega)).mono fun _ _ ⟨he, hb⟩ => ⟨he, hW.trans (hb.mono hW.size)⟩
    have f7 : ∀ W, Below w3.heap.size w3 W → Calls Try.prog 17 #[.slice A n c, .int .i64 hop] W fun e W' => ∃ B2 m d2, e = .returned (.slice B2 m d2) ∧ Below w3.heap.size w3 W' ∧
        (∀ V, Below W'.heap.size W' V → Calls Try.prog 14 #[.slice B2 m d2, .int .i64 hop] V fun e V' => e = .returned (.int .i64 0) ∧ Below W'.heap.size W' V') ∧
        (∀ V, Below W'.heap.size W' V → Calls Try.prog 10 #[.slice B2 m d2] V fun e V' => e = .returned (.int .i64 (Grp.sumW l - Grp.share l hop)) ∧ Below W'.heap.size W' V') := by
      intro W hW
      refine (without_any A n c l hop W (hwl.below hW) (by omega)).mono ?_
      rintro e W' ⟨B2, d2, he, hd, hw, hb⟩
      have hlw : (Grp.without l hop).length ≤ 16 := by
        have := HG.out.ways.1
        exact Nat.le_trans (List.length_filter_le _ _) (by omega)
      refine ⟨B2, _, d2, he, hW.trans (hb.mono hW.size), fun V hV => ?_, fun V hV => ?_⟩
      · have := share_any B2 _ d2 (Grp.without l hop) hop V (hw.below hV) (by omega)
        rw [Grp.without_share] at this
        exact this.mono fun _ _ ⟨he, hb⟩ => ⟨he, hV.trans (hb.mono hV.size)⟩
      · have := total_any B2 _ d2 (Grp.without l hop) V (hw.below hV) (by omega)
        rw [(Grp.total_small (fun x hx => by have := Grp.wrong_of H0.out (List.mem_filter.1 hx).1; omega) hlw).1, Grp.without_sum hop (Grp.hops_of H0.out)] at this
        exact this.mono fun _ _ ⟨he, hb⟩ => ⟨he, hV.trans (hb.mono hV.size)⟩
    have f8 : ∀ h, Grp.share l h * Grp.sumW (Grp.norm l) = Grp.share (Grp.norm l) h * Grp.sumW l := fun h => Grp.norm_cross H0.out h
    have f9 : ∀ h, 0 ≤ Grp.share l h * Grp.sumW (Grp.norm l) ∧ Grp.share l h * Grp.sumW (Grp.norm l) ≤ 1040400 := fun h => Grp.cross_bd H0.out h
    have f10 := Grp.share_bd H0.out hop
    have HW := Lib.hid hwl; have HNW := Lib.hid hnw
    generalize Grp.norm l = nl at *
    have F1 := Lib.hid f1; have F2 := Lib.hid f2; have F3 := Lib.hid f3; have F4 := Lib.hid f4; have F5 := Lib.hid f5; have F6 := Lib.hid f6; have F7 := Lib.hid f7; have F8 := Lib.hid f8; have F9 := Lib.hid f9
    clear f1 f2 f3 f4 f5 f6 f7 f8 f9 hwl hnw E2 H0
    generalize Grp.sumW l = a at *
    generalize Grp.sumW nl = b at *
    obtain ⟨hs0, hs1⟩ := hsa
    obtain ⟨ht0, ht1⟩ := hsb
    have hfst := f10
    go_wp2_with fail
    refine (F1.out _ (Below.refl _ _)).mono ?_
    rintro e w4 ⟨rfl, hb4⟩
    go_wp2_with fail
    refine (F2.out _ hb4).mono ?_
    rintro e w5 ⟨rfl, hb5⟩
    go_wp2_with fail
    refine (F3.out _ hb5).mono ?_
    rintro e w6 ⟨rfl, hb6⟩
    go_wp2_with fail
    refine (F4.out _ hb6).mono ?_
    rintro e w7 ⟨B2, d2, rfl, hb7, hs⟩
    have HS := Lib.hid hs
    clear hs
    go_wp2_with fail
    refine (HS.out).mono ?_
    rintro e w8 ⟨rfl, hb8⟩
    go_wp2_with fail
    go_loopw [9] (fun v W => ∃ k : Nat, k ≤ n ∧ v = .int .i64 k ∧ Below w3.heap.size w3 W) (fun v _ => n - (intOf v).toNat)
    case atStart => exact ⟨0, Nat.zero_le _, rfl, hb8⟩
    case round =>
      obtain ⟨k, hk, rfl, hbk⟩ := hrel
      by_cases hlt : k < n
      · obtain ⟨x, bb, off, hx, hA, hc0, hc1⟩ := (HW.out.below hbk).at_ hlt
        clear hx hc1
        have hcell : ∀ W, Below wr.heap.size wr W → W.cell? ⟨bb, off + k * 2, none⟩ = some (.int .i64 x.1) := fun W hW => (hW.cell (World.block_lt_of_cell? wr _ hc0)).trans hc0
        have g1 : ∀ W, Below wr.heap.size wr W → Calls Try.prog 14 #[.slice A n c, .int .i64 x.1] W fun e W' => e = .returned (.int .i64 (Grp.share l x.1)) ∧ Below wr.heap.size wr W' ∧ W'.cell? ⟨bb, off + k * 2, none⟩ = some (.int .i64 x.1) := fun W hW =>
          (share_any A n c l x.1 W (HW.out.below (hbk.trans (hW.mono hbk.size))) (by omega)).mono fun _ _ ⟨he, hb⟩ => ⟨he, hW.trans (hb.mono hW.size), hcell _ (hW.trans (hb.mono hW.size))⟩
        have g2 : ∀ W, Below wr.heap.size wr W → Calls Try.prog 14 #[.slice B n d, .int .i64 x.1] W fun e W' => e = .returned (.int .i64 (Grp.share nl x.1)) ∧ Below wr.heap.size wr W' ∧ W'.cell? ⟨bb, off + k * 2, none⟩ = some (.int .i64 x.1) := fun W hW =>
          (share_any B n d nl x.1 W (HNW.out.below (hbk.trans (hW.mono hbk.size))) (by omega)).mono fun _ _ ⟨he, hb⟩ => ⟨he, hW.trans (hb.mono hW.size), hcell _ (hW.trans (hb.mono hW.size))⟩
        have p1 := F8.out x.1
        have p2 := F9.out x.1
        generalize Grp.share l x.1 = u at g1 p1 p2
        generalize Grp.share nl x.1 = v at g2 p1
        obtain ⟨P, hP⟩ : ∃ P, P = u * b := ⟨_, rfl⟩
        have hw2 : IntKind.i64.wrap (v * a) = P := by rw [hP, ← p1]; exact IntWalk.i64_in _ (by omega)
        have hw1 : IntKind.i64.wrap (u * b) = P := by rw [hP]; exact IntWalk.i64_in _ (by omega)
        clear hP
        subst hA
        have G1 := Lib.hid g1; have G2 := Lib.hid g2; have HCELL := Lib.hid hcell
        clear g1 g2 p1 p2 hcell
        have hk0 : (0 : Int) ≤ (k : Int) := by omega
        have hkn : (k : Int) < (n : Int) := by omega
        go_wp2_with fail
        go_region_held3 (fun w' => Below wr.heap.size wr w' ∧ w'.cell? ⟨bb, off + k * 2, none⟩ = some (.int .i64 x.1)) (first | assumption | exact ⟨by assumption, by assumption⟩ | exact ⟨(Below.refl _ _).drew, by simpa using hc0⟩ | exact ⟨Below.drew (by assumption), by assumption⟩)
          (first | (go_at_call 14; (with_reducible refine (G1.out _ ?_).mono ?_); (exact And.left (by assumption)); rintro e w4 ⟨rfl, hb4, hc4⟩) | (go_at_call 14; (with_reducible refine (G2.out _ ?_).mono ?_); (exact And.left (by assumption)); rintro e w4 ⟨rfl, hb4, hc4⟩))
        go_wp2
        go_roundw
        case rel => exact ⟨k + 1, by omega, by go_num, hbk.trans (hb4.mono hbk.size)⟩
        case measure => simp [intOf]; omega
      · have hkn : n = k := by omega
        subst hkn
        have hss : IntKind.i64.wrap (a - Grp.share l hop) = a - Grp.share l hop := IntWalk.i64_in _ (by omega)
        generalize hsx : Grp.share l hop = sx at *
        have HSX := Lib.hid hsx
        have G5 : Hid (∀ W, Below w3.heap.size w3 W → Calls Try.prog 14 #[.slice A n c, .int .i64 hop] W fun e W' => e = .returned (.int .i64 sx) ∧ Below w3.heap.size w3 W') := fun W hW => by
          have := F5.out hop W hW
          rwa [HSX.out] at this
        clear hsx
        go_wp2_with fail
        refine (F7.out _ hbk).mono ?_
        rintro e w9 ⟨B9, m9, d9, rfl, hb9, hs1, hs2⟩
        have H1 := Lib.hid hs1; have H2 := Lib.hid hs2
        clear hs1 hs2
        go_wp2_with fail
        refine (H1.out _ (Below.refl _ _)).mono ?_
        rintro e w10 ⟨rfl, hb10⟩
        go_wp2_with fail
        refine (H2.out _ hb10).mono ?_
        rintro e w11 ⟨rfl, hb11⟩
        go_wp2_with fail
        refine (G5.out _ (hb9.trans (hb11.mono hb9.size))).mono ?_
        rintro e w12 ⟨rfl, hb12⟩
        go_wp2
        go_ret
        exact ⟨rfl, hb3'.trans (hb12.mono hb3'.size)⟩
  · have hne : (Grp.check l != 0) = true := by simpa using h0
    clear h0 hg
    generalize Grp.check l = ck at E1 hne
    go_enter Try.func5, Try.ntmps5
    go_wp2_with fail
    refine (HA.out).mono ?_
    rintro e w1 ⟨rfl, hb1⟩
    go_wp2_with fail
    refine (E1.out _ hb1).mono ?_
    rintro e w2 ⟨rfl, hb2⟩
    go_wp2
    go_ret
    exact ⟨rfl, hb2⟩

end Go.Proofs.Ytepbchgjnhnhjaa
