/-
  The reference's Number, walked.
-/
import Derived.Test.YtdnjgknnckoagaaDoorNum
namespace Go.Proofs.YtdnjgknnckoagaaDoor
open Go.RowKit

theorem stepV_lo {n c : Nat} (h : c < 48) : stepV n c = none := by rw [stepV, if_pos (Or.inl h)]
theorem stepV_hi {n c : Nat} (h : 57 < c) : stepV n c = none := by rw [stepV, if_pos (Or.inr (Or.inl h))]
theorem stepV_ov {n c : Nat} {d : Int} (hd : (c : Int) - 48 = d) (h0 : 0 ≤ d) (h : (9223372036854775807 - d) / 10 < (n : Int)) : stepV n c = none := by rw [stepV, if_pos (by omega)]
theorem stepV_ok {n c : Nat} {d : Int} (hd : (c : Int) - 48 = d) (h0 : 0 ≤ d) (h9 : d ≤ 9) (h : ¬ (9223372036854775807 - d) / 10 < (n : Int)) : ∃ m : Nat, stepV n c = some m ∧ (m : Int) = 10 * n + d ∧ m ≤ 9223372036854775807 :=
  ⟨10 * n + (c - 48), by rw [stepV, if_neg (by omega)], by omega, by omega⟩
theorem numB_bad {l : List UInt8} (h : valB l = none) : numB l = none := by
  rw [numB, h]; split <;> rfl
theorem retN_none {l : List UInt8} (h : numB l = none) : Ending.returned (.tuple #[.int .i64 0, .bool false]) = Ending.returned (outN (numB l)) := by rw [h]; rfl
theorem numB_ne {l : List UInt8} {m : Nat} (h : valB l = some m) (hd : Lib.decDigits m ≠ l) : numB l = none := by
  rw [numB, h]
  split
  · rfl
  · rw [Option.bind_some, if_neg (fun e => hd e.1)]
theorem numB_gt {l : List UInt8} {m : Nat} (h : valB l = some m) (hd : 255 < m) : numB l = none := by
  rw [numB, h]
  split
  · rfl
  · rw [Option.bind_some, if_neg (by omega)]
theorem numB_yes {l : List UInt8} {m : Nat} (h : valB l = some m) (h0 : l ≠ []) (h1 : l.length ≤ 19) (hd : Lib.decDigits m = l) (h2 : m ≤ 255) : numB l = some m := by
  rw [numB, h, if_neg (by rintro (e | e); exact h0 e; omega), Option.bind_some, if_pos ⟨hd, h2⟩]
theorem str_ext {s : ByteArray} {l : List UInt8} : (txt l = s) ↔ l = s.data.toList := by
  constructor
  · rintro rfl; simp
  · rintro rfl; apply ByteArray.ext; simp [txt]

set_option maxRecDepth 100000 in
set_option maxHeartbeats 2000000 in
theorem num_any (s : ByteArray) (w : World) :
    Calls Tryd.prog 20 #[.string s, .int .i64 255] w fun e w' => e = .returned (outN (numB s.data.toList)) ∧ w = w' := by
  by_cases h0 : s.size = 0
  · have hne : s.toList.isEmpty = true := by
      rw [ByteArray.toList_eq]
      cases hl : s.data.toList with
      | nil => rfl
      | cons a l => exact absurd (show s.size = l.length + 1 by simpa using congrArg List.length hl) (by omega)
    have HN := Lib.hid (show numB s.data.toList = none by rw [numB, if_pos (Or.inl (by rw [← ByteArray.toList_eq]; simpa using hne))])
    clear h0
    go_enter Tryd.func20, Tryd.ntmps20
    go_wp2_with fail
    go_ret2
    exact ⟨retN_none HN.out, rfl⟩
  · have hne : s.toList.isEmpty = false := by rw [ByteArray.toList_eq]; cases hl : s.data.toList with
      | nil => exact absurd (by have := congrArg List.length hl; simpa using this) h0
      | cons a l => rfl
    have HNE := Lib.hid (show s.data.toList ≠ [] by rw [← ByteArray.toList_eq]; intro e; rw [e] at hne; cases hne)
    by_cases h19 : 19 < s.size
    · have hz : decide ((s.size : Int) > 19) = true := by simp; omega
      have HN := Lib.hid (show numB s.data.toList = none by rw [numB, if_pos (Or.inr (by simpa using h19))])
      go_enter Tryd.func20, Tryd.ntmps20
      go_wp2_with fail
      go_ret2
      exact ⟨retN_none HN.out, rfl⟩
    · have hz : decide ((s.size : Int) > 19) = false := by simp; omega
      have hs19 : (s.size : Int) ≤ 19 := by omega
      go_enter Tryd.func20, Tryd.ntmps20
      go_wp2_with fail
      go_loop [6, 7] (fun u v => ∃ k m : Nat, k ≤ s.size ∧ v = .int .i64 k ∧ u = .int .i64 m ∧ valB (s.data.toList.take k) = some m ∧ m ≤ 9223372036854775807) (fun _ v => s.size - (intOf v).toNat)
      case atStart => exact ⟨0, 0, Nat.zero_le _, rfl, rfl, rfl, by decide⟩
      case round =>
        obtain ⟨k, m, hk, rfl, rfl, hv, hm⟩ := hrel
        have HV := Lib.hid hv
        clear hv
        by_cases hlt : k < s.size
        · have hk0 : (0 : Int) ≤ k := by omega
          have hkn : (k : Int) < s.size := by omega
          have hat : s.data.toList[k]? = some (s[k]'hlt) := by rw [Array.getElem?_toList]; exact Array.getElem?_eq_getElem hlt
          have HBAD := Lib.hid (fun h => valB_bad hat HV.out h)
          have HON := Lib.hid (fun (u : Nat) (h : stepV m (s[k]'hlt).toNat = some u) => show valB (s.data.toList.take (k + 1)) = some u by rw [take_snoc hat, valB_snoc, HV.out]; exact h)
          have hc8 : (s[k]'hlt).toNat < 256 := (s[k]'hlt).toNat_lt
          clear hat
          go_upto_region 8 with fail
          generalize (s[k]'hlt).toNat = c at *
          have e1 : wrap64 (c : Int) = c := by unfold wrap64; omega
          try rw [e1]
          have e2 : wrap64 ((c : Int) - 48) = (c : Int) - 48 := by unfold wrap64; omega
          try rw [e2]
          clear e1 e2
          obtain ⟨d, hd⟩ : ∃ d : Int, (c : Int) - 48 = d := ⟨_, rfl⟩
          rw [hd]
          have hd1 : -48 ≤ d := by omega
          have hd2 : d ≤ 300 := by omega
          by_cases b1 : d < 0
          · have HN := Lib.hid (numB_bad (HBAD.out (stepV_lo (by omega))))
            clear hd
            go_wp2_with fail
            go_ret2
            exact ⟨retN_none HN.out, rfl⟩
          · by_cases b2 : 9 < d
            · have HN := Lib.hid (numB_bad (HBAD.out (stepV_hi (by omega))))
              clear hd
              go_wp2_with fail
              go_ret2
              exact ⟨retN_none HN.out, rfl⟩
            · by_cases b3 : (9223372036854775807 - d) / 10 < (m : Int)
              · have HN := Lib.hid (numB_bad (HBAD.out (stepV_ov hd (by omega) b3)))
                clear hd
                go_wp2_with fail
                go_ret2
                exact ⟨retN_none HN.out, rfl⟩
              · obtain ⟨u, hu, hue, hub⟩ := stepV_ok hd (by omega) (by omega) b3
                have HN := Lib.hid (HON.out u hu)
                clear hd hu
                have HU := Lib.hid hue
                clear hue
                have hmb : (m : Int) ≤ 922337203685477580 := by omega
                have hub2 : 10 * (m : Int) + d ≤ 9223372036854775807 := by have := HU.out; omega
                go_wp2_with fail
                go_round
                case rel => exact ⟨k + 1, u, by omega, by go_num, by rw [HU.out], HN.out, hub⟩
                case measure => simp [intOf]; omega
        · obtain rfl : k = s.size := by omega
          have HW := Lib.hid (show valB s.data.toList = some m by have := HV.out; rwa [List.take_of_length_le (by simp)] at this)
          clear HV
          go_wp2_with fail
          refine (rdig_pos m (by omega) _).mono ?_
          rintro e w2 ⟨rfl, rfl⟩
          by_cases hq : Lib.decDigits m = s.data.toList
          · have he : (⟨(Lib.decDigits m).toArray⟩ : ByteArray) = s := str_ext.2 hq
            have HQ := Lib.hid hq
            clear hq
            rw [he]
            by_cases h255 : 255 < m
            · have hg : decide ((m : Int) > 255) = true := by simp; omega
              have HN := Lib.hid (numB_gt HW.out h255)
              go_wp2_with fail
              go_ret2
              exact ⟨retN_none HN.out, rfl⟩
            · have hg : decide ((m : Int) > 255) = false := by simp; omega
              have HN := Lib.hid (numB_yes HW.out HNE.out (by simpa using h19) HQ.out (by omega))
              go_wp2_with fail
              go_ret2
              exact ⟨by rw [HN.out]; rfl, rfl⟩
          · have he : (⟨(Lib.decDigits m).toArray⟩ : ByteArray) ≠ s := fun e => hq (str_ext.1 e)
            have HN := Lib.hid (numB_ne HW.out hq)
            generalize (⟨(Lib.decDigits m).toArray⟩ : ByteArray) = t at he ⊢
            have hb : (t.toList == s.toList) = false := by
              rw [beq_eq_false_iff_ne, ByteArray.toList_eq, ByteArray.toList_eq]
              exact fun e => he (ByteArray.ext (Array.ext' e))
            clear he hq
            go_wp2_with fail
            go_ret2
            exact ⟨retN_none HN.out, rfl⟩
end Go.Proofs.YtdnjgknnckoagaaDoor
