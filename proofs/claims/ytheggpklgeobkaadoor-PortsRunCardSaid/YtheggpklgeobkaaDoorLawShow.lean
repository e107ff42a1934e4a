/-
  The law PortsShow, walked.
-/
import Derived.Test.YtheggpklgeobkaaDoorLaws
namespace Go.Proofs.YtheggpklgeobkaaDoor
open Go.RowKit

/-- how many ends of lines -/
def nl (l : List UInt8) : Nat := l.countP (fun c => c == 10)
theorem nl_append (l m : List UInt8) : nl (l ++ m) = nl l + nl m := by simp [nl]
theorem decD_no10 (a : Nat) : ∀ c ∈ Lib.decDigits a, c ≠ 10 := by
  induction a using Nat.strongRecOn with
  | _ a ih =>
    intro c hc
    have key : ∀ d : Nat, d < 10 → UInt8.ofNat (48 + d) ≠ 10 := by
      intro d hd e
      have := congrArg UInt8.toNat e
      rw [UInt8.toNat_ofNat'] at this
      simp at this
      omega
    by_cases h10 : a < 10
    · rw [decD_one a h10, List.mem_singleton] at hc
      rw [hc]; exact key a h10
    · rw [decD_step a (by omega), List.mem_append, List.mem_singleton] at hc
      rcases hc with hc | rfl
      · exact ih _ (by omega) c hc
      · exact key _ (by omega)
theorem nl_itoa (n : Int) : nl (Lib.itoa n) = 0 := by
  unfold nl
  rw [List.countP_eq_zero]
  intro c hc
  unfold Lib.itoa at hc
  have h : c ≠ 10 := by
    split at hc
    · rw [List.mem_cons] at hc
      rcases hc with rfl | hc
      · decide
      · exact decD_no10 _ c hc
    · exact decD_no10 _ c hc
  simpa using h
theorem nl_line (e : Pe) : nl (lineP e) = 1 := by
  unfold lineP line1
  rw [nl_append, nl_append, nl_append, nl_append, nl_itoa, nl_itoa]
  cases e.up <;> rfl
theorem nl_show (l : List Pe) : nl (showP l) = l.length := by
  induction l with
  | nil => rfl
  | cons e l ih =>
    unfold showP at *
    rw [List.flatMap_cons, nl_append, nl_line, ih, List.length_cons]
    omega
theorem nl_take {l : List UInt8} {k : Nat} {c : UInt8} (h : l[k]? = some c) : nl (l.take (k + 1)) = nl (l.take k) + if c = 10 then 1 else 0 := by
  rw [take_snoc h, nl_append]
  congr 1
  by_cases hc : c = 10
  · subst hc; rfl
  · rw [if_neg hc]; simp [nl, hc]
theorem nl_le (l : List UInt8) (k : Nat) : nl (l.take k) ≤ l.length := by
  unfold nl
  exact Nat.le_trans List.countP_le_length (by rw [List.length_take]; omega)

theorem lst_sorted (S : PS) : ∀ k, (lstT S k).Pairwise (fun a b => a.num < b.num)
  | 0 => List.Pairwise.nil
  | k + 1 => by
    rw [lstT_succ, List.pairwise_append]
    refine ⟨lst_sorted S k, ?_, ?_⟩
    · cases entP S k with
      | none => exact List.Pairwise.nil
      | some x => exact List.pairwise_singleton _ _
    · intro a ha b hb
      obtain ⟨i, hi, he, _⟩ := lstT_mem ha
      unfold entP at hb
      cases hs : S k with
      | none => rw [hs] at hb; simp at hb
      | some x => rw [hs] at hb; simp at hb; subst hb; simp only; omega
theorem lst_step {S : PS} {k : Nat} {a b : Pe} (ha : (lst S)[k]? = some a) (hb : (lst S)[k + 1]? = some b) : a.num < b.num := by
  obtain ⟨h1, rfl⟩ := List.getElem?_eq_some_iff.1 ha
  obtain ⟨h2, rfl⟩ := List.getElem?_eq_some_iff.1 hb
  exact List.pairwise_iff_getElem.1 (lst_sorted S 64) k (k + 1) h1 h2 (by omega)
/-- what is told of one of the row -/
theorem lst_told {S : PS} {e : Pe} (h : e ∈ lst S) : upS S e.num = e.up ∧ mtuS S e.num = e.mtu := by
  obtain ⟨i, hi, hn, hs⟩ := lstT_mem h
  rw [hn]
  exact ⟨by simp [upS, inP_nat hi, hs], by simp [mtuS, inP_nat hi, hs]⟩

set_option maxRecDepth 100000 in
set_option maxHeartbeats 8000000 in
theorem portsShow_any {W : World} {A : Option Addr} {n c : Nat} {l : List Sp} (hr : Rd spc 3 W A n l) (ht : Tab W) :
    Calls Tryd.prog 5 #[.slice A n c] W fun e w' => e = .returned (.bool true) ∧ Below W.heap.size W w' := by
  have HR := Lib.hid hr
  have HT := Lib.hid ht
  have HAW := Lib.hid (awake_any W ht)
  clear hr ht
  go_enter Tryd.func5, Tryd.ntmps5
  go_wp2_with fail
  refine (HAW.out).mono ?_
  rintro e w1 ⟨rfl, hb1⟩
  have HB1 := Lib.hid hb1
  clear hb1 HAW
  by_cases h80 : 80 < n
  · have hz : decide ((n : Int) > 80) = true := by simp; omega
    go_wp2_with fail
    go_ret
    exact ⟨rfl, HB1.out⟩
  · have hz : decide ((n : Int) > 80) = false := by simp; omega
    go_wp2_with fail
    refine (new_any w1).mono ?_
    rintro e w2 ⟨rfl, hp2, hb2⟩
    have HP2 := Lib.hid (hp2.mono HB1.out.size)
    have HB2 := Lib.hid (HB1.out.trans (hb2.mono HB1.out.size))
    clear hp2 hb2
    go_wp2_with fail
    refine (run_any (c := c) HP2.out HB2.out HR.out (by omega)).mono ?_
    rintro e w3 ⟨g, v, rfl, hB⟩
    have HB := Lib.hid hB
    clear hB hz h80 HP2 HB2 HR HB1
    go_wp2_with fail
    refine (all_any HB.out.pts).mono ?_
    rintro e w4 ⟨v1, rfl, hown, hb4⟩
    obtain ⟨A1, c1, rfl, hc1, hr1⟩ := Rd.of_own pen_len (by decide) hown
    have HR4 := Lib.hid hr1
    have HB4 := Lib.hid (HB.out.below hb4)
    have HNL := Lib.hid (nl_show (lst (abs g)))
    have HSL := Lib.hid (showP_len (l := lst (abs g)) (fun e he => HB.out.ok.mem he))
    have hl := lst_len (abs g)
    clear hown hr1 hb4 HB
    go_wp2_with fail
    refine (show_any HB4.out.pts HB4.out.ok (HT.out.below HB4.out.bel)).mono ?_
    rintro e w5 ⟨rfl, hb5⟩
    have HB5 := Lib.hid (HB4.out.below hb5)
    have HR5 := Lib.hid (HR4.out.below hb5)
    clear hb5 HB4 HR4
    obtain ⟨s, hs1, hs2⟩ : ∃ s : ByteArray, txt (showP (lst (abs g))) = s ∧ s.data.toList = showP (lst (abs g)) := ⟨_, rfl, txt_list _⟩
    have HNS := Lib.hid (show nl s.data.toList = (lst (abs g)).length by rw [hs2]; exact HNL.out)
    have hsl : s.size ≤ 4000 := by
      have h1 := HSL.out
      rw [← hs2] at h1
      have h2 : s.data.toList.length = s.size := by simp
      omega
    rw [hs1]
    clear hs1 hs2 HSL HNL
    go_wp2_with fail
    go_loop [9, 10] (fun m i => ∃ k : Nat, k ≤ s.size ∧ i = .int .i64 k ∧ m = .int .i64 (nl (s.data.toList.take k) : Nat)) (fun _ i => s.size - (intOf i).toNat)
    case atStart => exact ⟨0, Nat.zero_le _, rfl, rfl⟩
    case round =>
      obtain ⟨k, hk, rfl, rfl⟩ := hrel
      have hk0 : (0 : Int) ≤ k := by omega
      have hnl := nl_le s.data.toList k
      by_cases hlt : k < s.size
      · have hk1 : (k : Int) < s.size := by omega
        have hat : s.data.toList[k]? = some (s[k]'hlt) := by rw [Array.getElem?_toList]; exact Array.getElem?_eq_getElem hlt
        have HNT := Lib.hid (nl_take hat)
        have hnl2 : nl (s.data.toList.take k) ≤ 4000 := Nat.le_trans hnl (by have h2 : s.data.toList.length = s.size := by simp
                                                                             omega)
        clear hat hnl
        by_cases h10 : (s[k]'hlt) = 10
        · have hd : ((((s[k]'hlt).toNat : Nat) : Int) == 10) = true := by rw [h10]; rfl
          have HNT2 := Lib.hid (show nl (s.data.toList.take (k + 1)) = nl (s.data.toList.take k) + 1 by rw [HNT.out, if_pos h10])
          clear h10 HNT
          generalize nl (s.data.toList.take k) = m at *
          go_wp2_with fail
          go_round
          case rel => exact ⟨k + 1, by omega, by go_num, by rw [HNT2.out]; go_num⟩
          case measure => simp [intOf]; omega
        · have hd : ((((s[k]'hlt).toNat : Nat) : Int) == 10) = false := by
            rw [beq_eq_false_iff_ne]
            intro e
            have e' : (s[k]'hlt).toNat = 10 := by exact_mod_cast e
            exact h10 (by have : (s[k]'hlt) = UInt8.ofNat (s[k]'hlt).toNat := by simp
                          rw [this, e']; rfl)
          have HNT2 := Lib.hid (show nl (s.data.toList.take (k + 1)) = nl (s.data.toList.take k) by rw [HNT.out, if_neg h10]; rfl)
          clear h10 HNT
          generalize nl (s.data.toList.take k) = m at *
          go_wp2_with fail
          go_round
          case rel => exact ⟨k + 1, by omega, by go_num, by rw [HNT2.out]⟩
          case measure => simp [intOf]; omega
      · obtain rfl : k = s.size := by omega
        have hmm : nl (s.data.toList.take s.size) = (lst (abs g)).length := by rw [List.take_of_length_le (by simp)]; exact HNS.out
        rw [hmm]
        clear hmm hnl HNS hk hlt hk0
        have hge : ¬ (s.size : Int) < s.size := by omega
        go_wp2_with fail
        have HW5 := HB5
        go_loopw [11] (fun i w' => ∃ k : Nat, k ≤ (lst (abs g)).length ∧ i = .int .i64 k ∧ Below w5.heap.size w5 w') (fun i _ => (lst (abs g)).length - (intOf i).toNat)
        case atStart => exact ⟨0, Nat.zero_le _, rfl, Below.refl _ _⟩
        case round =>
          obtain ⟨k, hk, rfl, hbr⟩ := hrel
          have HBR := Lib.hid hbr
          clear hbr
          have hk0 : (0 : Int) ≤ k := by omega
          by_cases hlt : k < (lst (abs g)).length
          · have hk1 : (k : Int) < (lst (abs g)).length := by omega
            obtain ⟨x, b, off, hx, rfl, hcell⟩ := HR5.out.at_ hlt
            have hmem := List.mem_of_getElem? hx
            obtain ⟨hup, hmt⟩ := lst_told hmem
            have hox := HB5.out.ok.mem hmem
            obtain ⟨num, mtu, up⟩ := x
            simp only at hup hmt
            have hmtu : decide (mtu < 68) = false := by have := hox.2.2.1; simp only at this; simp; omega
            have HQ1 := Lib.hid (fun x : Cls wr.heap.size wr => show Calls Tryd.prog 13 #[.pointer (some ⟨w1.heap.size, 0, none⟩), .int .i64 num] x.w fun e w' => e = .returned (.bool up) ∧ x.w = w' by
              rw [← hup]; exact up_any ((HB5.out.pts.below HBR.out).below x.bel) num)
            have HQ2 := Lib.hid (fun x : Cls wr.heap.size wr => show Calls Tryd.prog 14 #[.pointer (some ⟨w1.heap.size, 0, none⟩), .int .i64 num] x.w fun e w' => e = .returned (.int .i64 mtu) ∧ x.w = w' by
              rw [← hmt]; exact mtu_any ((HB5.out.pts.below HBR.out).below x.bel) num)
            have hcx : ∀ x : Cls wr.heap.size wr, Below w5.heap.size w5 x.w := fun x => HBR.out.trans (x.bel.mono HBR.out.size)
            have hlt5 : b < w5.heap.size := World.block_lt_of_cell? _ _ (hcell 0 _ rfl)
            have d0 : ∀ x : Cls wr.heap.size wr, x.w.cell? ⟨b, off + k * 3, none⟩ = some (.int .i64 num) := fun x => ((hcx x).cell (p := ⟨b, off + k * 3, none⟩) hlt5).trans (hcell 0 _ rfl)
            have d1 : ∀ x : Cls wr.heap.size wr, x.w.cell? ⟨b, off + k * 3 + 1, none⟩ = some (.int .i64 mtu) := fun x => ((hcx x).cell (p := ⟨b, off + k * 3 + 1, none⟩) hlt5).trans (hcell 1 _ rfl)
            have d2 : ∀ x : Cls wr.heap.size wr, x.w.cell? ⟨b, off + k * 3 + 2, none⟩ = some (.bool up) := fun x => ((hcx x).cell (p := ⟨b, off + k * 3 + 2, none⟩) hlt5).trans (hcell 2 _ rfl)
            have hne := Cls.some wr.heap.size wr
            have HCX := Lib.hid hcx
            rcases k with _ | j
            · clear hcell hx hmem hup hmt hox hcx hlt5
              simp only [Nat.zero_mul, Nat.add_zero] at d0 d1 d2
              go_wp2_with fail
              refine wp_region_cls0 (by kernel_rfl) (by kernel_rfl) ?_
              repeat (first
                | go_big_quiet_step (first
                  | (go_at_call 13; exact cls_same' _ (HQ1.out _))
                  | (go_at_call 14; exact cls_same' _ (HQ2.out _)))
                | quiet_step (first
                  | (go_at_call 13; exact cls_same' _ (HQ1.out _))
                  | (go_at_call 14; exact cls_same' _ (HQ2.out _))))
              refine wpQuiet_nil ?_
              rintro _ ⟨x, rfl⟩
              have HFY := Lib.hid (HCX.out x)
              clear d0 d1 d2
              go_wp2
              go_roundw
              case rel => exact ⟨1, by omega, by go_num, HFY.out⟩
              case measure => simp [intOf]; omega
            · obtain ⟨y, b', off', hy, hA, hcell'⟩ := HR5.out.at_ (show j < (lst (abs g)).length by omega)
              cases hA
              have hst := lst_step hy hx
              obtain ⟨num', mtu', up'⟩ := y
              simp only at hst
              have hge' : decide (num' ≥ num) = false := by simp; omega
              have e0 : ∀ x : Cls wr.heap.size wr, x.w.cell? ⟨b, off + j * 3, none⟩ = some (.int .i64 num') := fun x => ((hcx x).cell (p := ⟨b, off + j * 3, none⟩) hlt5).trans (hcell' 0 _ rfl)
              have hw1 : IntKind.i64.wrap (((j + 1 : Nat) : Int) - 1) = (j : Int) := by rw [IntWalk.i64_in _ (by omega)]; omega
              have hw2 : IntKind.i64.wrap ((j : Int) + 1 - 1) = (j : Int) := by rw [IntWalk.i64_in _ (by omega)]; omega
              have hw3 : IntKind.i64.wrap (j : Int) = (j : Int) := by rw [IntWalk.i64_in _ (by omega)]
              have hj0 : (0 : Int) ≤ j := by omega
              have hj2 : (0 : Int) ≤ (j : Int) + 1 := by omega
              have hj3 : (j : Int) + 1 < (lst (abs g)).length := by omega
              have hj4 : ((j : Int) + 1).toNat = j + 1 := by omega
              have hj1 : (j : Int) < (lst (abs g)).length := by omega
              have hg0 : decide (((j + 1 : Nat) : Int) > 0) = true := decide_eq_true (by omega)
              clear hcell hcell' hx hy hmem hup hmt hox hcx hlt5 hst
              go_wp2_with fail
              refine wp_region_cls0 (by kernel_rfl) (by kernel_rfl) ?_
              repeat (first
                | go_big_quiet_step (first
                  | (go_at_call 13; exact cls_same' _ (HQ1.out _))
                  | (go_at_call 14; exact cls_same' _ (HQ2.out _)))
                | quiet_step (first
                  | (go_at_call 13; exact cls_same' _ (HQ1.out _))
                  | (go_at_call 14; exact cls_same' _ (HQ2.out _))))
              refine wpQuiet_nil ?_
              rintro _ ⟨x, rfl⟩
              have HFY := Lib.hid (HCX.out x)
              clear d0 d1 d2 e0 hw1 hw2 hw3
              go_wp2
              go_roundw
              case rel => exact ⟨j + 1 + 1, by omega, by go_num, HFY.out⟩
              case measure => simp [intOf]; omega
          · have hge2 : ¬ (k : Int) < (lst (abs g)).length := by omega
            clear hk
            go_wp2_with fail
            go_ret
            exact ⟨ret_bool (by simp), HB5.out.bel.trans (HBR.out.mono HB5.out.bel.size)⟩
end Go.Proofs.YtheggpklgeobkaaDoor
