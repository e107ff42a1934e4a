/-
  Both Totals compute Grp.total, both Shares Grp.share; group.Pick computes Grp.pick.
-/
import Derived.Test.YtepbchgjnhnhjaaRefA
namespace Go.Proofs.Ytepbchgjnhnhjaa
open Go.RowKit

set_option maxHeartbeats 1000000 in
theorem total_any (A : Option Addr) (n c : Nat) (l : List (Int × Int)) (w : World) (hl : Ways w A n l) (hn : n ≤ 4611686018427387903) :
    Calls Try.prog 10 #[.slice A n c] w fun e w' => e = .returned (.int .i64 (Grp.total l)) ∧ Below w.heap.size w w' := by
  have HN := Lib.hid hl.1
  have HL := Lib.hid hl
  clear hl
  go_enter Try.func10, Try.ntmps10
  go_wp2
  go_loopw [3, 8] (fun s v W => ∃ k : Nat, k ≤ n ∧ v = .int .i64 k ∧ s = .int .i64 (Grp.total (l.take k)) ∧ Below w.heap.size w W) (fun _ v _ => n - (intOf v).toNat)
  case atStart => exact ⟨0, Nat.zero_le _, rfl, rfl, Below.refl _ _⟩
  case round =>
    obtain ⟨k, hk, rfl, rfl, hbk⟩ := hrel
    by_cases hlt : k < n
    · obtain ⟨x, b, off, hx, hA, hc0, hc1⟩ := (HL.out.below hbk).at_ hlt
      subst hA
      have HX := Lib.hid (Grp.take_snoc hx)
      clear hx
      go_wp2
      go_roundw
      case rel => exact ⟨k + 1, by omega, by go_num, by rw [HX.out, Grp.total_snoc], hbk.alloc hbk.size _⟩
      case measure => simp [intOf]; omega
    · have hkn : n = k := by omega
      subst hkn
      go_wp2
      go_ret
      refine ⟨ret_int ?_, hbk⟩
      rw [List.take_of_length_le (by have := HN.out; omega)]

set_option maxHeartbeats 1000000 in
theorem refTotal_any (A : Option Addr) (n c : Nat) (l : List (Int × Int)) (w : World) (hl : Ways w A n l) (hn : n ≤ 4611686018427387903) :
    Calls Try.prog 11 #[.slice A n c] w fun e w' => e = .returned (.int .i64 (Grp.total l)) ∧ Below w.heap.size w w' := by
  have HN := Lib.hid hl.1
  have HL := Lib.hid hl
  clear hl
  go_enter Try.func11, Try.ntmps11
  go_wp2
  go_loop [3, 4] (fun s v => ∃ k : Nat, k ≤ n ∧ v = .int .i64 k ∧ s = .int .i64 (Grp.total (l.take k))) (fun _ v => n - (intOf v).toNat)
  case atStart => exact ⟨0, Nat.zero_le _, rfl, rfl⟩
  case round =>
    obtain ⟨k, hk, rfl, rfl⟩ := hrel
    by_cases hlt : k < n
    · obtain ⟨x, b, off, hx, hA, hc0, hc1⟩ := HL.out.at_ hlt
      subst hA
      have HX := Lib.hid (Grp.take_snoc hx)
      clear hx
      go_wp2
      go_round
      case rel => exact ⟨k + 1, by omega, by go_num, by rw [HX.out, Grp.total_snoc]⟩
      case measure => simp [intOf]; omega
    · have hkn : n = k := by omega
      subst hkn
      go_wp2
      go_ret
      refine ⟨ret_int ?_, Below.refl _ _⟩
      rw [List.take_of_length_le (by have := HN.out; omega)]

theorem hopIs_any (x : Int × Int) (w : World) (B : Nat) (hop : Int) (hB : B < w.heap.size) (hc : w.cell? ⟨B, 0, none⟩ = some (.int .i64 hop)) :
    Calls Try.prog 26 #[.agg #[.int .i64 x.1, .int .i64 x.2], .pointer (some ⟨B, 0, none⟩)] w fun e w' => e = .returned (.bool (x.1 == hop)) ∧ Below w.heap.size w w' := by
  obtain ⟨h, k⟩ := x
  have hne : B ≠ w.heap.size := by omega
  go_enter Try.func26, Try.ntmps26
  go_wp2
  go_ret
  exact ⟨rfl, by go_grown⟩

theorem firstIdx_bd (p : Nat → Bool) (n : Nat) : -1 ≤ firstIdx p n ∧ firstIdx p n < n := by
  unfold firstIdx
  cases hf : (List.range n).find? p with
  | none => exact ⟨by simp, by show (-1 : Int) < _; omega⟩
  | some i =>
    have := List.mem_range.1 (List.mem_of_find?_eq_some hf)
    exact ⟨by show (-1 : Int) ≤ (i : Int); omega, by show (i : Int) < (n : Int); omega⟩

theorem firstIdx_congr {p q : Nat → Bool} {n : Nat} (h : ∀ i, i < n → p i = q i) : firstIdx p n = firstIdx q n := by
  have : (List.range n).find? p = (List.range n).find? q := by
    have : ∀ m, m ≤ n → (List.range m).find? p = (List.range m).find? q := by
      intro m
      induction m with
      | zero => intro _; rfl
      | succ m ih => intro hm; rw [List.range_succ, List.find?_append, List.find?_append, ih (by omega)]; simp [List.find?, h m (by omega)]
    exact this n (Nat.le_refl _)
  unfold firstIdx
  rw [this]

set_option maxHeartbeats 1000000 in
theorem share_any (A : Option Addr) (n c : Nat) (l : List (Int × Int)) (hop : Int) (w : World) (hl : Ways w A n l) (hn : n ≤ 4611686018427387903) :
    Calls Try.prog 14 #[.slice A n c, .int .i64 hop] w fun e w' => e = .returned (.int .i64 (Grp.share l hop)) ∧ Below w.heap.size w w' := by
  have hidx : Calls Try.prog 24 #[.slice A n c, .func (.func 26) #[] #[.pointer (some ⟨w.heap.size, 0, none⟩)]] (w.alloc (.cells #[.int .i64 hop] 3))
      fun e W' => e = .returned (.int .i64 (Grp.shareAt l hop)) ∧ Below w.heap.size w W' := by
    refine (indexFunc A n c l 26 #[.pointer (some ⟨w.heap.size, 0, none⟩)] (fun _ V => Below (w.heap.size + 1) (w.alloc (.cells #[.int .i64 hop] 3)) V) (fun i => (l.getD i (0, 0)).1 == hop) _
      (enters_any Try.func26 (by kernel_rfl) rfl) hn (fun _ V hb => (hl.below (by go_grown)).below (hb.mono (by simp))) (fun i y V hy hb => ?_) (Below.refl _ _)).mono ?_
    · have hc := (hb.cell (p := ⟨w.heap.size, 0, none⟩) (by simp)).trans (show (w.alloc (.cells #[.int .i64 hop] 3)).cell? ⟨w.heap.size, 0, none⟩ = some (.int .i64 hop) by simp)
      have hz : w.heap.size + 1 ≤ V.heap.size := by have := hb.size; simpa using this
      refine (hopIs_any y V w.heap.size hop (by omega) hc).mono fun e w' ⟨he, hb'⟩ => ⟨?_, hb.trans (hb'.mono hz)⟩
      rw [he, getD_of hy]
    · rintro e W' ⟨rfl, j, _, hj⟩
      refine ⟨ret_int ?_, ((Below.refl _ w).alloc (Nat.le_refl _) _).trans (hj.mono (by simp))⟩
      rw [Grp.shareAt, hl.1]
  have hbd := firstIdx_bd (fun i => (l.getD i (0, 0)).1 == hop) l.length
  have hsh : Grp.share l hop = if Grp.shareAt l hop < 0 then 0 else (l.getD (Grp.shareAt l hop).toNat (0, 0)).2 := rfl
  change -1 ≤ Grp.shareAt l hop ∧ Grp.shareAt l hop < l.length at hbd
  rw [hl.1] at hbd
  generalize Grp.shareAt l hop = r at hidx hbd hsh
  generalize Grp.share l hop = val at hsh ⊢
  have HS := Lib.hid hsh
  obtain ⟨hr0, hr1⟩ := hbd
  have HI := Lib.hid hidx
  have HL := Lib.hid hl
  clear hidx hl hsh
  by_cases hneg : r < 0
  · go_enter Try.func14, Try.ntmps14
    go_wp2_with (go_at_call 24; refine (HI.out).mono ?_; rintro e w1 ⟨rfl, hb1⟩)
    go_ret
    exact ⟨ret_int (by rw [HS.out, if_pos hneg]), hb1⟩
  · obtain ⟨k, rfl⟩ : ∃ k : Nat, r = k := ⟨r.toNat, by omega⟩
    have hkn : k < n := by omega
    obtain ⟨x, b, off, hx, hA, -, -⟩ := HL.out.at_ hkn
    subst hA
    go_enter Try.func14, Try.ntmps14
    have HX := Lib.hid (getD_of hx)
    have hcell : ∀ W, Below w.heap.size w W → W.cell? ⟨b, off + k * 2 + 1, none⟩ = some (.int .i64 x.2) := by
      intro W hW
      obtain ⟨x', b', off', hx', hA', -, h1⟩ := (HL.out.below hW).at_ hkn
      rw [hx] at hx'
      injection hx' with hx'
      subst hx'
      obtain ⟨rfl, rfl⟩ : b = b' ∧ off = off' := by simpa using hA'
      exact h1
    have HC := Lib.hid hcell
    clear hcell hx
    go_wp2_with (go_at_call 24; refine (HI.out).mono ?_; rintro e w1 ⟨rfl, hb1⟩; have hc1 := HC.out w1 hb1)
    go_ret
    exact ⟨ret_int (by rw [HS.out, if_neg (by omega), Int.toNat_natCast, HX.out]), hb1⟩

set_option maxHeartbeats 1000000 in
theorem refShare_any (A : Option Addr) (n c : Nat) (l : List (Int × Int)) (hop : Int) (w : World) (hl : Ways w A n l) (hn : n ≤ 4611686018427387903) :
    Calls Try.prog 15 #[.slice A n c, .int .i64 hop] w fun e w' => e = .returned (.int .i64 (Grp.share l hop)) ∧ Below w.heap.size w w' := by
  have HN := Lib.hid hl.1
  have HL := Lib.hid hl
  clear hl
  go_enter Try.func15, Try.ntmps15
  go_wp2
  go_loop [5] (fun v => ∃ k : Nat, k ≤ n ∧ v = .int .i64 k ∧ ∀ j, j < k → ((l.getD j (0, 0)).1 == hop) = false) (fun v => n - (intOf v).toNat)
  case atStart => exact ⟨0, Nat.zero_le _, rfl, fun j hj => absurd hj (by omega)⟩
  case round =>
    obtain ⟨k, hk, rfl, hp⟩ := hrel
    have HP := Lib.hid hp
    clear hp
    by_cases hlt : k < n
    · obtain ⟨x, b, off, hx, hA, hc0, hc1⟩ := HL.out.at_ hlt
      subst hA
      have HX := Lib.hid (getD_of hx)
      clear hx
      cases hxh : x.1 == hop
      · go_wp2
        go_round
        case rel =>
          refine ⟨k + 1, by omega, by go_num, fun j hj => ?_⟩
          by_cases hjk : j = k
          · rw [hjk, HX.out]; exact hxh
          · exact HP.out j (by omega)
        case measure => simp [intOf]; omega
      · have HH := Lib.hid hxh
        go_wp2
        go_ret
        refine ⟨ret_int ?_, Below.refl _ _⟩
        have h1 : Grp.shareAt l hop = k := firstIdx_some (by have := HN.out; omega) (by rw [HX.out]; exact HH.out) HP.out
        rw [Grp.share, h1, if_neg (by omega), Int.toNat_natCast, HX.out]
    · have hkn : n = k := by omega
      subst hkn
      go_wp2
      go_ret
      refine ⟨ret_int ?_, Below.refl _ _⟩
      have h1 : Grp.shareAt l hop = -1 := firstIdx_none fun i hi => HP.out i (by have := HN.out; omega)
      rw [Grp.share, h1, if_pos (by omega)]

/-- what is left of the number behind i ways -/
def Left (w0 : World) (B : Nat) (l : List (Int × Int)) (h : Int) (i : Nat) (V : World) : Prop :=
  Below B w0 V ∧ B < V.heap.size ∧ V.cell? ⟨B, 0, none⟩ = some (.int .i64 (h - Grp.sumW (l.take i))) ∧ V.frozen? ⟨B, 0, none⟩ = false

theorem pickStep_any (x : Int × Int) (w : World) (B : Nat) (a : Int) (hB : B < w.heap.size) (hc : w.cell? ⟨B, 0, none⟩ = some (.int .i64 a)) (hf : w.frozen? ⟨B, 0, none⟩ = false)
    (ha0 : -100000 ≤ a) (ha1 : a ≤ 4294967295) (hx0 : 1 ≤ x.2) (hx1 : x.2 ≤ 255) :
    Calls Try.prog 25 #[.agg #[.int .i64 x.1, .int .i64 x.2], .pointer (some ⟨B, 0, none⟩)] w fun e w' => e = .returned (.bool (decide (a - x.2 < 0))) ∧
      Below B w w' ∧ B < w'.heap.size ∧ w'.cell? ⟨B, 0, none⟩ = some (.int .i64 (a - x.2)) ∧ w'.frozen? ⟨B, 0, none⟩ = false := by
  obtain ⟨h, k⟩ := x
  have hne : B ≠ w.heap.size := by omega
  go_enter Try.func25, Try.ntmps25
  go_wp2
  go_ret
  exact ⟨rfl, by go_grown, by simp; omega, by simp only [World.cell?_alloc_lt _ _ (⟨B, 0, none⟩ : Addr) (show B < (w.setCell ⟨B, 0, none⟩ (.int .i64 (a - k))).heap.size by simpa [World.setCell] using hB)]; exact World.cell?_setCell_same w _ _ (by rw [hc]), by simp [World.frozen?_alloc_old, hne, hf]⟩

set_option maxHeartbeats 1000000 in
theorem pick_any (A : Option Addr) (n c : Nat) (l : List (Int × Int)) (hash : Int) (w : World) (hl : Ways w A n l) (hn : n ≤ 4611686018427387903) (hnc : n ≤ c) (hh : 0 ≤ hash ∧ hash ≤ 4294967295) :
    Calls Try.prog 12 #[.slice A n c, .int .u32 hash] w fun e w' => e = .returned (.int .i64 (Grp.pick l hash)) ∧ Below w.heap.size w w' := by
  obtain ⟨hh0, hh1⟩ := hh
  have hchk : ∀ W, Below w.heap.size w W → Calls Try.prog 8 #[.slice A n c] W fun e W' => e = .returned (.int .i64 (Grp.check l)) ∧ Below w.heap.size w W' := fun W hW =>
    (check_any A n c l W (hl.below hW) hn hnc).mono fun e w' ⟨he, hb⟩ => ⟨he, hW.trans (hb.mono hW.size)⟩
  have htot : ∀ W, Below w.heap.size w W → Calls Try.prog 10 #[.slice A n c] W fun e W' => e = .returned (.int .i64 (Grp.total l)) ∧ Below w.heap.size w W' := fun W hW =>
    (total_any A n c l W (hl.below hW) hn).mono fun e w' ⟨he, hb⟩ => ⟨he, hW.trans (hb.mono hW.size)⟩
  have HC := Lib.hid hchk; have HT := Lib.hid htot
  clear hchk htot
  by_cases h0 : Grp.check l = 0
  · have hidx : ∀ W B, Below w.heap.size w W → w.heap.size ≤ B → B < W.heap.size → W.cell? ⟨B, 0, none⟩ = some (.int .i64 (hash % Grp.sumW l)) → W.frozen? ⟨B, 0, none⟩ = false →
        Calls Try.prog 24 #[.slice A n c, .func (.func 25) #[] #[.pointer (some ⟨B, 0, none⟩)]] W
        fun e W' => e = .returned (.int .i64 (Grp.pick l hash)) ∧ Below w.heap.size w W' := by
      intro W B hW hB0 hB hc hf
      have hm0 := Int.emod_nonneg hash (b := Grp.sumW l) (by have := Grp.sumW_all_bd h0; omega)
      have hm1 := Int.emod_lt_of_pos hash (b := Grp.sumW l) (by have := Grp.sumW_all_bd h0; omega)
      have hm2 := (Grp.sumW_all_bd h0).2
      refine (indexFunc A n c l 25 #[.pointer (some ⟨B, 0, none⟩)]
        (fun i V => Below w.heap.size w V ∧ B < V.heap.size ∧ V.cell? ⟨B, 0, none⟩ = some (.int .i64 (hash % Grp.sumW l - Grp.sumW (l.take i))) ∧ V.frozen? ⟨B, 0, none⟩ = false)
        (fun i => decide (hash % Grp.sumW l - Grp.sumW (l.take (i + 1)) < 0)) W
        (enters_any Try.func25 (by kernel_rfl) rfl) hn (fun i V hI => hl.below hI.1) (fun i y V hy hI => ?_) ⟨hW, hB, by rw [hc]; simp [Grp.sumW], hf⟩).mono ?_
      · obtain ⟨hb, hlt, hcc, hff⟩ := hI
        have hbd := Grp.sumW_take_bd h0 i
        have hyy := Grp.wrong_of h0 (List.mem_of_getElem? hy)
        refine (pickStep_any y V B _ hlt hcc hff (by omega) (by omega) hyy.2.1 hyy.2.2).mono fun e V' ⟨he, hb', hlt', hc', hf'⟩ => ?_
        rw [Grp.take_snoc hy, Grp.sumW_snoc]
        rw [show hash % Grp.sumW l - (Grp.sumW (l.take i) + y.2) = hash % Grp.sumW l - Grp.sumW (l.take i) - y.2 by omega]
        exact ⟨he, hb.trans (hb'.mono hB0), hlt', hc', hf'⟩
      · rintro e W' ⟨rfl, j, _, hj⟩
        refine ⟨ret_int ?_, hj.1⟩
        rw [Grp.pick, if_pos h0, hl.1]
    have HI := Lib.hid hidx
    have HT' := HT
    rw [Grp.total_eq h0] at HT'
    have hs := Grp.sumW_all_bd h0
    generalize Grp.sumW l = s at HI HT' hs
    generalize Grp.pick l hash = val at HI ⊢
    obtain ⟨hs0, hs1⟩ := hs
    rw [h0] at HC
    clear hidx h0 hl HT
    go_enter Try.func12, Try.ntmps12
    go_wp2_with first
      | (go_at_call 8; refine (HC.out _ (by go_grown)).mono ?_; rintro e w1 ⟨rfl, hb1⟩)
      | (go_at_call 10; refine (HT'.out _ hb1).mono ?_; rintro e w2 ⟨rfl, hb2⟩)
      | (go_at_call 24; fail)
    have hz2 := hb2.size
    refine (HI.out _ _ (hb2.alloc hz2 _) (by omega) (by simp) (by simp) (by simp)).mono ?_
    rintro e w3 ⟨rfl, hb3⟩
    go_wp2
    go_ret
    exact ⟨rfl, hb3⟩
  · have hval : Grp.pick l hash = -1 := by rw [Grp.pick, if_neg h0]
    rw [hval]
    have hne : (Grp.check l != 0) = true := by simpa using h0
    clear hval hl h0 HT
    generalize Grp.check l = ck at HC hne
    go_enter Try.func12, Try.ntmps12
    go_wp2_with (go_at_call 8; refine (HC.out _ (by go_grown)).mono ?_; rintro e w1 ⟨rfl, hb1⟩)
    go_ret
    exact ⟨rfl, hb1⟩

end Go.Proofs.Ytepbchgjnhnhjaa
