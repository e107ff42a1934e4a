/-
  The law GroupRest is true, whatever the ways and the number.
-/
import Derived.Test.YtepbchgjnhnhjaaTells
namespace Go.Proofs.Ytepbchgjnhnhjaa
open Go.RowKit
namespace Grp
theorem pick_rest {l : List W} (h : check l = 0) (hash : Int) : pick l (hash % sumW l) = pick l hash := by
  rw [pick, pick, if_pos h, if_pos h, Int.emod_emod_of_dvd _ (Int.dvd_refl _)]
theorem pick_first {l : List W} (h : check l = 0) : pick l 0 = 0 := by
  rw [pick, if_pos h]
  have hT := sumW_all_bd h
  have hn := len_of h
  refine firstIdx_some (i := 0) (by omega) ?_ fun j hj => by omega
  obtain ⟨x, hx⟩ : ∃ x, l[0]? = some x := ⟨_, List.getElem?_eq_getElem (by omega)⟩
  have := wrong_of h (List.mem_of_getElem? hx)
  rw [take_snoc hx, sumW_snoc]
  simp [sumW]
  omega
theorem pick_last {l : List W} (h : check l = 0) : pick l (sumW l - 1) = (l.length : Int) - 1 := by
  have hT := sumW_all_bd h
  have hn := len_of h
  obtain ⟨i, hi, h1, _, h3, h4⟩ := pick_at h (sumW l - 1)
  rw [h1]
  rw [Int.emod_eq_of_lt (by omega) (by omega)] at h3 h4
  by_cases hl : i + 1 = l.length
  · omega
  · have h5 := sumW_mono h (show i + 1 ≤ l.length - 1 by omega)
    obtain ⟨x, hx⟩ : ∃ x, l[l.length - 1]? = some x := ⟨_, List.getElem?_eq_getElem (by omega)⟩
    have h6 := wrong_of h (List.mem_of_getElem? hx)
    have h7 : sumW l = sumW (l.take (l.length - 1)) + x.2 := by
      rw [← sumW_snoc, ← take_snoc hx, show l.length - 1 + 1 = l.length by omega, List.take_length]
    omega
end Grp

set_option maxHeartbeats 4000000 in
theorem rest_any (A : Option Addr) (n c : Nat) (l : List (Int × Int)) (hash : Int) (w : World) (hg : Given w A n c l) (hh : 0 ≤ hash ∧ hash ≤ 4294967295) :
    Calls Try.prog 6 #[.slice A n c, .int .u32 hash] w fun e w' => e = .returned (.bool true) ∧ Below w.heap.size w w' := by
  have haw := awake_any w
  have HA := Lib.hid haw
  clear haw
  obtain ⟨hh0, hh1⟩ := hh
  by_cases h16 : (16 : Int) < (n : Int)
  · clear hg
    go_enter Try.func6, Try.ntmps6
    go_wp2_with (go_at_call 7; refine (HA.out).mono ?_; rintro e w1 ⟨rfl, hb1⟩)
    go_ret
    exact ⟨rfl, hb1⟩
  have hc := hg.cap
  have e1 : From w 8 #[.slice A n c] (.int .i64 (Grp.check l)) := from_ fun V hV => check_any A n c l V (hg.ways.below hV) (by omega) hc
  have E1 := Lib.hid e1
  clear e1
  by_cases h0 : Grp.check l = 0
  · rw [h0] at E1
    have e2 : From w 10 #[.slice A n c] (.int .i64 (Grp.sumW l)) := from_ fun V hV => by
      have := total_any A n c l V (hg.ways.below hV) (by omega)
      rwa [Grp.total_eq h0] at this
    have e3 : ∀ (h : Int) (W : World), Below w.heap.size w W → 0 ≤ h → h ≤ 4294967295 → Calls Try.prog 12 #[.slice A n c, .int .u32 h] W fun e W' => e = .returned (.int .i64 (Grp.pick l h)) ∧ Below w.heap.size w W' := fun h W hW h1 h2 =>
      (pick_any A n c l h W (hg.ways.below hW) (by omega) hc ⟨h1, h2⟩).mono fun _ _ ⟨he, hb⟩ => ⟨he, hW.trans (hb.mono hW.size)⟩
    have p1 := Grp.pick_rest h0 hash
    have p2 := Grp.pick_first h0
    have p3 := Grp.pick_last h0
    have hT := Grp.sumW_all_bd h0
    have hTn := (Grp.sumW_bd l fun x hx => (Grp.wrong_of h0 hx).2).1
    rw [hg.ways.1] at p3 hTn
    have hpk : ∃ pk : Int → Int, pk = Grp.pick l := ⟨_, rfl⟩
    obtain ⟨pk, hpk⟩ := hpk
    rw [← hpk] at e3 p1 p2 p3
    generalize Grp.sumW l = T at e2 p1 p3 hT hTn
    obtain ⟨hT0, hT1⟩ := hT
    have hm0 := Int.emod_nonneg hash (b := T) (by omega)
    have hm1 := Int.emod_lt_of_pos hash (b := T) (by omega)
    have hw1 : IntKind.u32.wrap T = T := IntWalk.u32_in _ (by omega)
    have hw2 : IntKind.u32.wrap (T - 1) = T - 1 := IntWalk.u32_in _ (by omega)
    have hw3 : hash.tmod T = hash % T := Int.tmod_eq_emod_of_nonneg hh0
    have hw4 : IntKind.i64.wrap ((n : Int) - 1) = (n : Int) - 1 := IntWalk.i64_in _ (by omega)
    have hne : (T = 0) = False := by simp; omega
    have E2 := Lib.hid e2; have E3 := Lib.hid e3
    clear e2 e3 hpk h0 hg
    go_enter Try.func6, Try.ntmps6
    go_wp2_with fail
    refine (HA.out).mono ?_
    rintro e w1 ⟨rfl, hb1⟩
    go_wp2_with fail
    refine (E1.out _ hb1).mono ?_
    rintro e w2 ⟨rfl, hb2⟩
    go_wp2_with fail
    refine (E2.out _ hb2).mono ?_
    rintro e w3 ⟨rfl, hb3⟩
    go_wp2_with fail
    go_region_held3 (fun w' => Below w.heap.size w w') (first | assumption | exact Below.drew (by assumption))
      ((go_at_call 12; refine (E3.out _ _ (by assumption) (by omega) (by omega)).mono ?_; rintro e w4 ⟨rfl, hb4⟩))
    go_wp2
    go_ret
    exact ⟨rfl, hb4⟩
  · have hne : (Grp.check l != 0) = true := by simpa using h0
    clear h0 hg
    generalize Grp.check l = ck at E1 hne
    go_enter Try.func6, Try.ntmps6
    go_wp2_with fail
    refine (HA.out).mono ?_
    rintro e w1 ⟨rfl, hb1⟩
    go_wp2_with fail
    refine (E1.out _ hb1).mono ?_
    rintro e w2 ⟨rfl, hb2⟩
    go_wp2
    go_ret
    exact ⟨rfl, hb2⟩

end Go.Proofs.Ytepbchgjnhnhjaa
