/-
  group.Norm computes Grp.norm.
-/
import Derived.Test.YtepbchgjnhnhjaaNormA
namespace Go.Proofs.Ytepbchgjnhnhjaa
open Go.RowKit

/-- the weights of the first k ways divided -/
def part (l : List (Int × Int)) (d : Int) (k : Nat) : List (Int × Int) := ((l.take k).map fun x => (x.1, x.2 / d)) ++ l.drop k

theorem part_length (l : List (Int × Int)) (d : Int) (k : Nat) : (part l d k).length = l.length := by
  simp [part]; omega
theorem part_at {l : List (Int × Int)} {d : Int} {k : Nat} {x : Int × Int} (h : l[k]? = some x) : (part l d k)[k]? = some x := by
  obtain ⟨hk, rfl⟩ := List.getElem?_eq_some_iff.1 h
  unfold part
  rw [List.getElem?_append_right (by simp; omega)]
  simp [List.getElem?_drop, Nat.min_eq_left (Nat.le_of_lt hk)]
theorem part_succ {l : List (Int × Int)} {d : Int} {k : Nat} {x : Int × Int} (h : l[k]? = some x) : part l d (k + 1) = (part l d k).set k (x.1, x.2 / d) := by
  obtain ⟨hk, rfl⟩ := List.getElem?_eq_some_iff.1 h
  have hlen : ((l.take k).map fun x : Int × Int => (x.1, x.2 / d)).length = k := by simp; omega
  unfold part
  rw [List.set_append, if_neg (by omega), hlen, Nat.sub_self, List.drop_eq_getElem_cons hk, List.set_cons_zero, List.take_succ_eq_append_getElem hk, List.map_append, List.append_assoc]
  rfl

set_option maxHeartbeats 2000000 in
theorem norm_any (A : Option Addr) (n c : Nat) (l : List (Int × Int)) (w : World) (hl : Ways w A n l) (hn : n ≤ 1000000) (hnc : n ≤ c) :
    Calls Try.prog 19 #[.slice A n c] w (GivesWays w (Grp.norm l)) := by
  have hcl := clone_any A n c l w hl hn
  have hchk : ∀ W, Below w.heap.size w W → Calls Try.prog 8 #[.slice A n c] W fun e W' => e = .returned (.int .i64 (Grp.check l)) ∧ Below W.heap.size W W' := fun W hW =>
    check_any A n c l W (hl.below hW) (by omega) hnc
  have HCL := Lib.hid hcl; have HC := Lib.hid hchk; have HL := Lib.hid hl
  clear hcl hchk hl
  by_cases h0 : Grp.check l = 0
  · have hnv : Grp.norm l = l.map fun x => (x.1, x.2 / Grp.normBy l) := by rw [Grp.norm, if_pos h0]
    have H0 := Lib.hid h0
    have HNV := Lib.hid hnv
    rw [h0] at HC
    clear h0 hnv
    have hn1 : 1 ≤ n := by have := (Grp.len_of H0.out).1; have := HL.out.1; omega
    go_enter Try.func19, Try.ntmps19
    go_wp2_with first
      | (go_at_call 28; refine (HCL.out).mono ?_; rintro e w1 ⟨v, rfl, hown, hb1⟩; have HOWN := Lib.hid hown; clear hown)
      | (go_at_call 8; refine (HC.out _ hb1).mono ?_; rintro e w2 ⟨rfl, hb2⟩)
    have hb02 : Below w.heap.size w w2 := hb1.trans (hb2.mono hb1.size)
    have hown2 := own_below HOWN.out hb2
    obtain ⟨g, cap, hv, hgb⟩ : ∃ g cap, v = .slice (some ⟨g, 0, none⟩) n cap ∧ w.heap.size ≤ g := by
      rcases hown2.2 with ⟨_, h⟩ | ⟨g, cap, cur, hv, hg, _⟩
      · omega
      · exact ⟨g, cap, hv, hg⟩
    subst hv
    have HO2 := Lib.hid hown2
    clear hown2
    have hcom : ∀ (a b : Int) (W : World), 0 ≤ a → 0 ≤ b → Calls Try.prog 30 #[.int .i64 a, .int .i64 b] W fun e W' => e = .returned (.int .i64 (Int.gcd a b)) ∧ Below W.heap.size W W' := fun a b W ha hb => common_any a b W ha hb
    have HCOM := Lib.hid hcom
    clear hcom
    go_loopw [4, 16] (fun s v W => ∃ k : Nat, k ≤ n ∧ v = .int .i64 k ∧ s = .int .i64 (Grp.normBy (l.take k)) ∧ Below w2.heap.size w2 W) (fun _ v _ => n - (intOf v).toNat)
    case atStart => exact ⟨0, Nat.zero_le _, rfl, rfl, Below.refl _ _⟩
    case round =>
      obtain ⟨k, hk, rfl, rfl, hbk⟩ := hrel
      by_cases hlt : k < n
      · obtain ⟨x, b, off, hx, hA, hc0, hc1⟩ := (HL.out.below (hb02.trans (hbk.mono hb02.size))).at_ hlt
        subst hA
        have HX := Lib.hid hx
        have hx2 : 0 ≤ x.2 := by have := Grp.wrong_of H0.out (List.mem_of_getElem? hx); omega
        have hnn := Grp.normBy_nonneg (l.take k)
        clear hx
        have HS := Lib.hid (Grp.normBy_snoc (l.take k) x)
        rw [← Grp.take_snoc HX.out] at HS
        generalize Grp.normBy (l.take k) = d at HS hnn
        have HCC := Lib.hid (fun W => HCOM.out d x.2 W hnn hx2)
        go_wp2_with (go_at_call 30; refine (HCC.out _).mono ?_; rintro e w3 ⟨rfl, hb3⟩)
        go_roundw
        case rel =>
          refine ⟨k + 1, by omega, by go_num, by rw [HS.out], ?_⟩
          exact ((hbk.alloc hbk.size _).trans (hb3.mono (by have := hbk.size; simp; omega)))
        case measure => simp [intOf]; omega
      · have hkn : n = k := by omega
        subst hkn
        have hd := Grp.normBy_pos H0.out
        rw [List.take_of_length_le (by have := HL.out.1; omega)]
        have hnorm : Grp.norm l = part l (Grp.normBy l) n := by
          rw [HNV.out, part, List.take_of_length_le (by have := HL.out.1; omega), List.drop_of_length_le (by have := HL.out.1; omega), List.append_nil]
        have HNL := Lib.hid hnorm
        clear hnorm HNV
        generalize Grp.normBy l = d at hd HNL
        obtain ⟨hd0, hd1⟩ := hd
        have hb0r : Below w.heap.size w wr := hb02.trans (hbk.mono hb02.size)
        have HOR := Lib.hid (own_below HO2.out hbk)
        clear hbk
        go_wp2
        obtain ⟨wo, rfl⟩ : ∃ wo : World, wo = wr := ⟨_, rfl⟩
        go_loopw [27] (fun v W => ∃ k : Nat, k ≤ n ∧ v = .int .i64 k ∧ W.ownsRow w.heap.size 37 2 (.slice (some ⟨g, 0, none⟩) n cap) n (flat (part l d k)) ∧ Below w.heap.size w W) (fun v _ => n - (intOf v).toNat)
        case atStart => exact ⟨0, Nat.zero_le _, rfl, by simpa [part] using HOR.out, hb0r⟩
        case round =>
          obtain ⟨k, hk, rfl, hown, hbk⟩ := hrel
          have HOW := Lib.hid hown
          clear hown
          by_cases hlt : k < n
          · obtain ⟨x, hx⟩ : ∃ x, l[k]? = some x := ⟨_, List.getElem?_eq_getElem (by have := HL.out.1; omega)⟩
            have hx2 := Grp.wrong_of H0.out (List.mem_of_getElem? hx)
            have hc1 : wr.cell? ⟨g, k * 2 + 1, none⟩ = some (.int .i64 x.2) := by rw [HOW.out.cellAt _ (by omega)]; exact (flat_at (part_at hx)).2
            have hf1 : wr.frozen? ⟨g, k * 2 + 1, none⟩ = false := HOW.out.frozenAt _
            obtain ⟨-, hx0, hx1⟩ := hx2
            have HX := Lib.hid hx
            clear hx
            go_wp2
            go_roundw
            case rel =>
              have h1 := HOW.out.stored (k * 2 + 1) (.int .i64 (x.2 / d))
              refine ⟨k + 1, by omega, by go_num, ?_, hbk.setCell hgb _⟩
              rw [part_succ HX.out, flat_set]
              have h2 : (flat (part l d k)).set (k * 2) (.int .i64 x.1) = flat (part l d k) := by
                have := (flat_at (part_at (d := d) HX.out)).1
                obtain ⟨hlt', he⟩ := List.getElem?_eq_some_iff.1 this
                rw [← he]
                exact List.set_getElem_self _
              show (wr.setCell ⟨g, k * 2 + 1, none⟩ (.int .i64 (x.2 / d))).ownsRow w.heap.size 37 2 (.slice (some ⟨g, 0, none⟩) n cap) n (((flat (part l d k)).set (k * 2) (.int .i64 x.1)).set (k * 2 + 1) (.int .i64 (x.2 / d)))
              rw [h2]
              exact h1.1
            case measure => simp [intOf]; omega
          · have hkn : n = k := by omega
            subst hkn
            go_wp2
            go_ret
            have hfin := HOW.out
            rw [← HNL.out] at hfin
            exact givesWays_of hfin hbk
  · have hnv : Grp.norm l = l := by rw [Grp.norm, if_neg h0]
    rw [hnv]
    have hne : (Grp.check l != 0) = true := by simpa using h0
    clear hnv h0
    generalize Grp.check l = ck at HC hne
    go_enter Try.func19, Try.ntmps19
    go_wp2_with first
      | (go_at_call 28; refine (HCL.out).mono ?_; rintro e w1 ⟨v, rfl, hown, hb1⟩; have HOWN := Lib.hid hown; clear hown)
      | (go_at_call 8; refine (HC.out _ hb1).mono ?_; rintro e w2 ⟨rfl, hb2⟩)
    go_ret
    exact givesWays_of (own_below HOWN.out hb2) (hb1.trans (hb2.mono hb1.size))

end Go.Proofs.Ytepbchgjnhnhjaa
