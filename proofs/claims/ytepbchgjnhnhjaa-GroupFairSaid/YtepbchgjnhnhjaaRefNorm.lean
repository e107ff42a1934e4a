/-
  The reference's Norm computes Grp.norm: the greatest number up to 255 that goes into all weights is their greatest common divisor.
-/
import Derived.Test.YtepbchgjnhnhjaaNorm
import Derived.Deep.RegionHeld3
namespace Go.Proofs.Ytepbchgjnhnhjaa
open Go.RowKit
namespace Grp

def inAll (l : List W) (n : Int) : Bool := l.all fun w => w.2 % n == 0
/-- the greatest number up to k that goes into all weights; 1: none -/
def best (l : List W) : Nat → Int
  | 0 => 1
  | k + 1 => if inAll l (k + 1) = true then ((k : Int) + 1) else best l k

theorem inAll_iff (l : List W) (n : Int) : inAll l n = true ↔ ∀ x ∈ l, n ∣ x.2 := by
  simp only [inAll, List.all_eq_true, beq_iff_eq]
  exact ⟨fun h x hx => Int.dvd_of_emod_eq_zero (h x hx), fun h x hx => Int.emod_eq_zero_of_dvd (h x hx)⟩
theorem inAll_snoc (l : List W) (x : W) (n : Int) : inAll (l ++ [x]) n = (inAll l n && x.2 % n == 0) := by simp [inAll]

theorem best_of {l : List W} (h : check l = 0) (k : Nat) (hk : normBy l ≤ k) : best l k = normBy l := by
  induction k with
  | zero => have := normBy_pos h; omega
  | succ k ih =>
    rw [best]
    by_cases hg : inAll l (k + 1) = true
    · rw [if_pos hg]
      have h1 := normBy_max l _ ((inAll_iff l _).1 hg)
      have h2 := Int.le_of_dvd (by have := normBy_pos h; omega) h1
      omega
    · rw [if_neg hg]
      by_cases he : normBy l = (k : Int) + 1
      · exact absurd ((inAll_iff l _).2 (by rw [← he]; exact normBy_dvd l)) hg
      · exact ih (by omega)
theorem best_255 {l : List W} (h : check l = 0) : best l 255 = normBy l := best_of h 255 (normBy_pos h).2
theorem best_pos (l : List W) (k : Nat) : 1 ≤ best l k ∧ (best l k ≤ k ∨ best l k = 1) := by
  induction k with
  | zero => simp [best]
  | succ k ih =>
    rw [best]
    split <;> omega
end Grp

theorem run_quo (x d q : Int) (hd : d ≠ 0) (hq : IntKind.i64.wrap (x.tdiv d) = q) (W : World) :
    (binOp .quo 3 (.int .i64 x) (.int .i64 d)).run Try.prog W = .ok (.int .i64 q) W := by
  simp [binOp, Op.intDiv, hd, hq]

set_option maxHeartbeats 2000000 in
theorem refNorm_any (A : Option Addr) (n c : Nat) (l : List (Int × Int)) (w : World) (hl : Ways w A n l) (hn : n ≤ 1000000)
    (hr : ∀ x ∈ l, -9223372036854775808 ≤ x.2 ∧ x.2 ≤ 9223372036854775807) :
    Calls Try.prog 20 #[.slice A n c] w (GivesWays w (Grp.norm l)) := by
  have hchk : ∀ W, Below w.heap.size w W → Calls Try.prog 9 #[.slice A n c] W fun e W' => e = .returned (.int .i64 (Grp.check l)) ∧ Below W.heap.size W W' := fun W hW =>
    refCheck_any A n c l W (hl.below hW)
  obtain ⟨i0, hi, hz0, hz1, hz2⟩ := info_parts Try.info_way
  have HI := Lib.hid hi; have HZ0 := Lib.hid hz0; have HZ1 := Lib.hid hz1; have HZ2 := Lib.hid hz2
  have HC := Lib.hid hchk; have HL := Lib.hid hl; have HR := Lib.hid hr
  clear hchk hl hr hi hz0 hz1 hz2
  by_cases h0 : Grp.check l = 0
  · have hnv : Grp.norm l = l.map fun x => (x.1, x.2 / Grp.normBy l) := by rw [Grp.norm, if_pos h0]
    have H0 := Lib.hid h0
    have HNV := Lib.hid hnv
    rw [h0] at HC
    clear h0 hnv
    go_enter Try.func20, Try.ntmps20
    go_wp2
    go_loopw [3, 4] (fun s v W => ∃ k : Nat, k ≤ 255 ∧ v = .int .i64 (k + 1) ∧ s = .int .i64 (Grp.best l k) ∧ Below w.heap.size w W) (fun _ v _ => 256 - (intOf v).toNat)
    case atStart => exact ⟨0, Nat.zero_le _, rfl, rfl, Below.refl _ _⟩
    case round =>
      obtain ⟨k, hk, rfl, rfl, hbk⟩ := hrel
      by_cases hlt : k < 255
      · have hle : (k : Int) + 1 ≤ 255 := by omega
        have hbst : Hid (Grp.best l (k + 1) = if Grp.inAll l ((k : Int) + 1) = true then ((k : Int) + 1) else Grp.best l k) := rfl
        generalize Grp.best l k = bk at hbst ⊢
        go_wp2_with (go_at_call 9; refine (HC.out _ hbk).mono ?_; rintro e w3 ⟨rfl, hb3⟩)
        have hb03 : Below w.heap.size w w3 := hbk.trans (hb3.mono hbk.size)
        clear hb3 hbk
        generalize hK : (k : Int) + 1 = K at hbst ⊢
        have HK := Lib.hid hK
        have hK1 : 1 ≤ K := by omega
        have hK2 : K ≤ 255 := by omega
        clear hK hle
        go_loop [5, 6] (fun q v => ∃ j : Nat, j ≤ n ∧ v = .int .i64 j ∧ q = .bool (Grp.inAll (l.take j) K)) (fun _ v => n - (intOf v).toNat)
        case atStart => exact ⟨0, Nat.zero_le _, rfl, rfl⟩
        case round =>
          obtain ⟨j, hj, rfl, rfl⟩ := hrel
          by_cases hjn : j < n
          · obtain ⟨x, b, off, hx, hA, hc0, hc1⟩ := (HL.out.below hb03).at_ hjn
            subst hA
            have HS := Lib.hid (Grp.inAll_snoc (l.take j) x K)
            rw [← Grp.take_snoc hx] at HS
            obtain ⟨-, hx0, hx1⟩ := Grp.wrong_of H0.out (List.mem_of_getElem? hx)
            clear hx
            have hb : ∃ q, q = Grp.inAll (l.take (j + 1)) K := ⟨_, rfl⟩
            cases hg : Grp.inAll (l.take j) K
            · rw [hg] at HS
              go_wp2
              go_round
              case rel => exact ⟨j + 1, by omega, by go_num, by rw [HS.out]; rfl⟩
              case measure => simp [intOf]; omega
            · rw [hg] at HS
              go_wp2
              go_round
              case rel => exact ⟨j + 1, by omega, by go_num, by rw [HS.out, Bool.true_and]⟩
              case measure => simp [intOf]; omega
          · have hjn' : n = j := by omega
            subst hjn'
            rw [List.take_of_length_le (by have := HL.out.1; omega)]
            cases hg : Grp.inAll l K
            · rw [hg] at hbst
              have HB := Lib.hid hbst.out
              clear hbst hg
              go_wp2
              go_roundw
              case rel => exact ⟨k + 1, by omega, by have := HK.out; go_num, by rw [HB.out]; rfl, hb03⟩
              case measure => have := HK.out; simp [intOf]; omega
            · rw [hg] at hbst
              have HB := Lib.hid hbst.out
              clear hbst hg
              go_wp2
              go_roundw
              case rel => exact ⟨k + 1, by omega, by have := HK.out; go_num, by rw [HB.out]; rfl, hb03⟩
              case measure => have := HK.out; simp [intOf]; omega
      · have hk255 : k = 255 := by omega
        subst hk255
        rw [Grp.best_255 H0.out]
        have hd := Grp.normBy_pos H0.out
        have hle : ¬ ((255 : Nat) : Int) + 1 ≤ 255 := by omega
        generalize Grp.normBy l = d at hd HNV ⊢
        obtain ⟨hd0, hd1⟩ := hd
        go_wp2
        obtain ⟨wo, rfl⟩ : ∃ wo : World, wo = wr := ⟨_, rfl⟩
        go_loopw [7, 8] (fun v i W => ∃ k : Nat, k ≤ n ∧ i = .int .i64 k ∧ W.ownsRow w.heap.size 37 2 v k (flat ((l.take k).map fun x => (x.1, x.2 / d))) ∧ Below w.heap.size w W) (fun _ i _ => n - (intOf i).toNat)
        case atStart => exact ⟨0, Nat.zero_le _, rfl, World.ownsRow_nil _ _ _ _, hbk⟩
        case round =>
          obtain ⟨k, hk, rfl, hown, hbk⟩ := hrel
          have HOWN := Lib.hid hown
          clear hown
          by_cases hlt : k < n
          · obtain ⟨x, b, off, hx, hA, hc0, hc1⟩ := (HL.out.below hbk).at_ hlt
            have hbw : b < w.heap.size := by
              obtain ⟨x', b', off', -, hA', h0', -⟩ := HL.out.at_ hlt
              rw [hA] at hA'
              obtain ⟨rfl, rfl⟩ : b = b' ∧ off = off' := by simpa using hA'
              exact World.block_lt_of_cell? w _ h0'
            subst hA
            obtain ⟨-, hx0, hx1⟩ := Grp.wrong_of H0.out (List.mem_of_getElem? hx)
            have hquo : IntKind.i64.wrap (x.2.tdiv d) = x.2 / d := IntWalk.i64_quo _ _ (by omega)
            have hdne : (d = 0) = False := by simp; omega
            have hM : ((l.take (k + 1)).map fun x : Int × Int => (x.1, x.2 / d)) = ((l.take k).map fun x : Int × Int => (x.1, x.2 / d)) ++ [(x.1, x.2 / d)] := by rw [Grp.take_snoc hx, List.map_append]; rfl
            have HM := Lib.hid hM
            have hml : ((l.take k).map fun x : Int × Int => (x.1, x.2 / d)).length = k := by rw [List.length_map, List.length_take]; have := HL.out.1; omega
            have HML := Lib.hid hml
            clear hx hM hml
            generalize hm : ((l.take k).map fun x : Int × Int => (x.1, x.2 / d)) = m at HOWN HM HML
            clear hm
            have hz := hbk.size
            have hk0 : (0 : Int) ≤ (k : Int) := by omega
            have hkn : (k : Int) < (n : Int) := by omega
            have hne : u7.ownBlock ≠ some b := fun h => by have := (HOWN.out.lt b h).1; omega
            have HNE := Lib.hid hne
            clear hne
            go_wp2
            go_region_held3 (fun w' => w'.cell? ⟨b, off + k * 2, none⟩ = some (.int .i64 x.1) ∧ w'.cell? ⟨b, off + k * 2 + 1, none⟩ = some (.int .i64 x.2))
              (first | go_keep | (go_split_ands; refine ⟨?_, ?_⟩ <;> (rw [hgrow.cell_far _ (by simp; omega) (Ne.symm HNE.out)]; assumption)))
              ((refine step_append_lies _ (by rfl) _ _ _ (by rfl) w.heap.size 37 i0 _ 2 16 Try.underlying22 HI.out HZ0.out HZ1.out HZ2.out rfl (by omega) u7 k (flat m) (by rfl) ((HOWN.out.alloc _).drew) ⟨wr.heap.size, 0, none⟩ 1 1 (flat [(x.1, x.2 / d)]) (by rfl) (by rfl) (new_way _ _ _) (flat_one _) (by omega) (by simp [maxLen]; omega) (by omega) (by simp; omega) (wr.heap.size + 1) (by simp) ?_; intro gg cap w1 hown1 hgrow hat hlt1))
            go_wp2
            go_roundw
            case rel =>
              refine ⟨k + 1, by omega, by go_num, ?_, ?_⟩
              · rw [HM.out, flat_append]; exact hown1
              · exact ((hbk.alloc hbk.size _).drew).grown hgrow (by simp; omega) (fun g hg => (HOWN.out.lt g hg).1)
            case measure => simp [intOf]; omega
          · have hkn : n = k := by omega
            subst hkn
            have hfin := HOWN.out
            rw [List.take_of_length_le (by have := HL.out.1; omega)] at hfin
            rw [← HNV.out] at hfin
            have HF := Lib.hid hfin
            clear hfin
            go_wp2
            go_ret
            exact givesWays_of HF.out hbk
  · have hnv : Grp.norm l = l := by rw [Grp.norm, if_neg h0]
    have HNV := Lib.hid hnv
    have hne : (Grp.check l == 0) = false := by simpa using h0
    clear hnv h0
    generalize Grp.check l = ck at HC hne
    go_enter Try.func20, Try.ntmps20
    go_wp2
    go_loopw [3, 4] (fun s v W => v = .int .i64 1 ∧ s = .int .i64 1 ∧ Below w.heap.size w W) (fun _ v _ => 0)
    case atStart => exact ⟨rfl, rfl, Below.refl _ _⟩
    case round =>
      obtain ⟨rfl, rfl, hbk⟩ := hrel
      go_wp2_with (go_at_call 9; refine (HC.out _ hbk).mono ?_; rintro e w3 ⟨rfl, hb3⟩)
      have hb03 : Below w.heap.size w w3 := hbk.trans (hb3.mono hbk.size)
      clear hb3 hbk
      skip
      go_loopw [7, 8] (fun v i W => ∃ k : Nat, k ≤ n ∧ i = .int .i64 k ∧ W.ownsRow w.heap.size 37 2 v k (flat ((l.take k).map fun x => (x.1, x.2))) ∧ Below w.heap.size w W) (fun _ i _ => n - (intOf i).toNat)
      case atStart => exact ⟨0, Nat.zero_le _, rfl, World.ownsRow_nil _ _ _ _, hb03⟩
      case round =>
        obtain ⟨k, hk, rfl, hown, hbk⟩ := hrel
        have HOWN := Lib.hid hown
        clear hown
        by_cases hlt : k < n
        · obtain ⟨x, b, off, hx, hA, hc0, hc1⟩ := (HL.out.below hbk).at_ hlt
          have hbw : b < w.heap.size := by
            obtain ⟨x', b', off', -, hA', h0', -⟩ := HL.out.at_ hlt
            rw [hA] at hA'
            obtain ⟨rfl, rfl⟩ : b = b' ∧ off = off' := by simpa using hA'
            exact World.block_lt_of_cell? w _ h0'
          subst hA
          obtain ⟨hx0, hx1⟩ := HR.out x (List.mem_of_getElem? hx)
          have hquo : IntKind.i64.wrap x.2 = x.2 := IntWalk.i64_in _ (by omega)
          have hM : ((l.take (k + 1)).map fun x : Int × Int => (x.1, x.2)) = ((l.take k).map fun x : Int × Int => (x.1, x.2)) ++ [(x.1, x.2)] := by rw [Grp.take_snoc hx, List.map_append]; rfl
          have HM := Lib.hid hM
          have hml : ((l.take k).map fun x : Int × Int => (x.1, x.2)).length = k := by rw [List.length_map, List.length_take]; have := HL.out.1; omega
          have HML := Lib.hid hml
          clear hx hM hml
          generalize hm : ((l.take k).map fun x : Int × Int => (x.1, x.2)) = m at HOWN HM HML
          clear hm
          have hz := hbk.size
          have hk0 : (0 : Int) ≤ (k : Int) := by omega
          have hkn : (k : Int) < (n : Int) := by omega
          have hne : u7.ownBlock ≠ some b := fun h => by have := (HOWN.out.lt b h).1; omega
          have HNE := Lib.hid hne
          clear hne
          go_wp2
          go_region_held3 (fun w' => w'.cell? ⟨b, off + k * 2, none⟩ = some (.int .i64 x.1) ∧ w'.cell? ⟨b, off + k * 2 + 1, none⟩ = some (.int .i64 x.2))
            (first | go_keep | (go_split_ands; refine ⟨?_, ?_⟩ <;> (rw [hgrow.cell_far _ (by simp; omega) (Ne.symm HNE.out)]; assumption)))
            ((refine step_append_lies _ (by rfl) _ _ _ (by rfl) w.heap.size 37 i0 _ 2 16 Try.underlying22 HI.out HZ0.out HZ1.out HZ2.out rfl (by omega) u7 k (flat m) (by rfl) ((HOWN.out.alloc _).drew) ⟨wr.heap.size, 0, none⟩ 1 1 (flat [(x.1, x.2)]) (by rfl) (by rfl) (new_way _ _ _) (flat_one _) (by omega) (by simp [maxLen]; omega) (by omega) (by simp; omega) (wr.heap.size + 1) (by simp) ?_; intro gg cap w1 hown1 hgrow hat hlt1))
          go_wp2
          go_roundw
          case rel =>
            refine ⟨k + 1, by omega, by go_num, ?_, ?_⟩
            · rw [HM.out, flat_append]; exact hown1
            · exact ((hbk.alloc hbk.size _).drew).grown hgrow (by simp; omega) (fun g hg => (HOWN.out.lt g hg).1)
          case measure => simp [intOf]; omega
        · have hkn : n = k := by omega
          subst hkn
          have hfin := HOWN.out
          rw [List.take_of_length_le (by have := HL.out.1; omega)] at hfin
          rw [show (l.map fun x : Int × Int => (x.1, x.2)) = Grp.norm l by rw [HNV.out]; simp] at hfin
          have HF := Lib.hid hfin
          clear hfin
          go_wp2
          go_ret
          exact givesWays_of HF.out hbk

end Go.Proofs.Ytepbchgjnhnhjaa
