/-
  Numbers in digits: the program's Digits, and the reference's.
-/
import Derived.Test.YtheggpklgeobkaaDoorMem
import Derived.Test.YtheggpklgeobkaaDoorShI
namespace Go.Proofs.YtheggpklgeobkaaDoor
open Go.RowKit

/-- a text out of its bytes -/
def txt (l : List UInt8) : ByteArray := ⟨l.toArray⟩
@[simp] theorem txt_size (l : List UInt8) : (txt l).size = l.length := by simp [txt, ByteArray.size]
@[simp] theorem txt_list (l : List UInt8) : (txt l).data.toList = l := by simp [txt]
theorem txt_append (l m : List UInt8) : txt l ++ txt m = txt (l ++ m) := by
  apply ByteArray.ext
  simp [txt]
theorem txt_nil : (⟨#[]⟩ : ByteArray) = txt [] := rfl
theorem str_txt {a b : List UInt8} (h : a = b) : Ending.returned (.string ⟨a.toArray⟩) = Ending.returned (.string ⟨b.toArray⟩) := by rw [h]

/-- a digit's place in the digits' row -/
theorem dig_slice (a : Nat) (h : a < 10) : (⟨#[48, 49, 50, 51, 52, 53, 54, 55, 56, 57]⟩ : ByteArray).extract a (a + 1) = txt [UInt8.ofNat (48 + a)] := by
  rcases a with _ | _ | _ | _ | _ | _ | _ | _ | _ | _ | a <;> first | decide +kernel | omega
/-- the digits ahead of those that were laid -/
def preD (m : Nat) : List UInt8 := if m = 0 then [] else Lib.decDigits m
theorem preD_step (m : Nat) (h : m ≠ 0) : preD m = preD (m / 10) ++ [UInt8.ofNat (48 + m % 10)] := by
  unfold preD
  rw [if_neg h, Lib.decDigits]
  by_cases h1 : m < 10
  · rw [dif_pos h1, if_pos (by omega)]
    simp
    congr 2
    omega
  · rw [dif_neg h1, if_neg (by omega)]
theorem decD_step (m : Nat) (h : 10 ≤ m) : Lib.decDigits m = Lib.decDigits (m / 10) ++ [UInt8.ofNat (48 + m % 10)] := by
  rw [Lib.decDigits, dif_neg (by omega)]
theorem decD_one (m : Nat) (h : m < 10) : Lib.decDigits m = [UInt8.ofNat (48 + m)] := by rw [Lib.decDigits, dif_pos h]
theorem decD_len (m : Nat) : ∀ k, m < 10 ^ k → (Lib.decDigits m).length ≤ k + 1 := by
  intro k
  induction k generalizing m with
  | zero => intro h; rw [decD_one m (by simp at h; omega)]; simp
  | succ k ih =>
    intro h
    by_cases h1 : m < 10
    · rw [decD_one m h1]; simp
    · rw [decD_step m (by omega), List.length_append]
      have := ih (m / 10) (by rw [Nat.pow_succ] at h; omega)
      simp; omega
theorem itoa_len (n : Int) (h0 : -9223372036854775808 ≤ n) (h1 : n ≤ 9223372036854775807) : (Lib.itoa n).length ≤ 21 := by
  unfold Lib.itoa
  split
  · have := decD_len n.natAbs 19 (by rw [show (10 : Nat) ^ 19 = 10000000000000000000 from by decide]; omega)
    rw [List.length_cons]; omega
  · have := decD_len n.toNat 19 (by rw [show (10 : Nat) ^ 19 = 10000000000000000000 from by decide]; omega)
    omega

set_option maxRecDepth 100000 in
set_option maxHeartbeats 2000000 in
theorem rdig_pos (m0 : Nat) (hm : (m0 : Int) ≤ 9223372036854775807) (w : World) :
    Calls Tryd.prog 31 #[.int .i64 (m0 : Int)] w fun e w' => e = .returned (.string ⟨(Lib.decDigits m0).toArray⟩) ∧ w = w' := by
  have h0 : ¬ (m0 : Int) < 0 := by omega
  go_enter Tryd.func31, Tryd.ntmps31
  go_wp2
  go_loop [0, 5] (fun u s => ∃ (m : Nat) (l : List UInt8), m ≤ m0 ∧ u = .int .i64 m ∧ s = .string (txt l) ∧ Lib.decDigits m ++ l = Lib.decDigits m0) (fun u _ => (intOf u).toNat)
  case atStart => exact ⟨m0, [], Nat.le_refl _, rfl, rfl, by simp⟩
  case round =>
    obtain ⟨m, l, hle, rfl, rfl, hl⟩ := hrel
    have hlen : l.length ≤ 21 := by
      have h1 := itoa_len m0 (by omega) hm
      unfold Lib.itoa at h1
      rw [if_neg (by omega), show (m0 : Int).toNat = m0 by omega, ← hl, List.length_append] at h1
      omega
    have hmin : ¬ 9223372036854775807 < min (m % 10 + 1) 10 - m % 10 + l.length := by omega
    have HL := Lib.hid hl
    have HD := Lib.hid (dig_slice (m % 10) (by omega))
    have h0' : (0 : Int) ≤ m := by omega
    clear hl
    by_cases hm10 : m < 10
    · have ht : ((m : Int) / 10 == 0) = true := beq_iff_eq.2 (by omega)
      go_wp2
      go_ret
      refine ⟨?_, rfl⟩
      rw [HD.out, txt_append, ← HL.out, decD_one m hm10, show m % 10 = m by omega]
      rfl
    · have ht : ((m : Int) / 10 == 0) = false := beq_eq_false_iff_ne.2 (by omega)
      go_wp2
      go_roundw
      case rel => exact ⟨m / 10, UInt8.ofNat (48 + m % 10) :: l, by omega, by simp, by rw [HD.out, txt_append]; rfl, by rw [← HL.out, decD_step m (by omega)]; simp⟩
      case measure => simp [intOf]; omega

set_option maxRecDepth 100000 in
set_option maxHeartbeats 2000000 in
theorem rdig_neg (m0 : Nat) (hp : 0 < m0) (hm : (m0 : Int) ≤ 9223372036854775808) (w : World) :
    Calls Tryd.prog 31 #[.int .i64 (-(m0 : Int))] w fun e w' => e = .returned (.string ⟨(45 :: Lib.decDigits m0).toArray⟩) ∧ w = w' := by
  have h0 : -(m0 : Int) < 0 := by omega
  go_enter Tryd.func31, Tryd.ntmps31
  go_wp2
  go_loop [0, 3, 4] (fun u s d => ∃ (m : Nat) (l : List UInt8), m ≤ m0 ∧ u = .int .i64 (-(m : Int)) ∧ s = .string (txt l) ∧ preD m ++ l = Lib.decDigits m0) (fun u _ _ => (-(intOf u)).toNat)
  case atStart => exact ⟨m0, [], Nat.le_refl _, rfl, rfl, by rw [preD, if_neg (by omega)]; simp⟩
  case round =>
    obtain ⟨m, l, hle, rfl, rfl, hl⟩ := hrel
    have hlen : l.length ≤ 21 := by
      have h1 := decD_len m0 19 (by rw [show (10 : Nat) ^ 19 = 10000000000000000000 from by decide]; omega)
      rw [← hl, List.length_append] at h1
      omega
    have hmin : ¬ 9223372036854775807 < min (m % 10 + 1) 10 - m % 10 + l.length := by omega
    have HL := Lib.hid hl
    have HD := Lib.hid (dig_slice (m % 10) (by omega))
    clear hl
    by_cases hz : m = 0
    · subst hz
      go_wp2
      go_ret
      refine ⟨?_, rfl⟩
      show Ending.returned (.string ((⟨#[45]⟩ : ByteArray) ++ txt l)) = _
      rw [show (⟨#[45]⟩ : ByteArray) = txt [45] from rfl, txt_append, ← HL.out]
      rfl
    · have hneg : -(m : Int) < 0 := by omega
      have ht1 : (-(m : Int)).tmod 10 = -((m % 10 : Nat) : Int) := by rw [Int.neg_tmod, Int.tmod_eq_emod_of_nonneg (by omega)]; omega
      have ht2 : (-(m : Int)).tdiv 10 = -((m / 10 : Nat) : Int) := by rw [Int.neg_tdiv]; simp
      have hb1 : ((m % 10 : Nat) : Int) < 10 := by omega
      go_wp2
      go_round
      case rel => exact ⟨m / 10, UInt8.ofNat (48 + m % 10) :: l, by omega, by simp, by rw [Nat.add_comm 1, HD.out, txt_append]; rfl, by rw [← HL.out, preD_step m hz]; simp⟩
      case measure => simp [intOf]; omega

/-- the reference's Digits -/
theorem rdig_any (n : Int) (h0 : -9223372036854775808 ≤ n) (h1 : n ≤ 9223372036854775807) (w : World) :
    Calls Tryd.prog 31 #[.int .i64 n] w fun e w' => e = .returned (.string (txt (Lib.itoa n))) ∧ w' = w := by
  unfold Lib.itoa
  by_cases hn : n < 0
  · rw [if_pos hn]
    obtain ⟨m, rfl⟩ : ∃ m : Nat, n = -(m : Int) := ⟨n.natAbs, by omega⟩
    rw [show (-(m : Int)).natAbs = m by omega]
    exact (rdig_neg m (by omega) (by omega) w).mono fun _ _ ⟨h1, h2⟩ => ⟨h1, h2.symm⟩
  · rw [if_neg hn]
    obtain ⟨m, rfl⟩ := Int.eq_ofNat_of_zero_le (show 0 ≤ n by omega)
    rw [show ((m : Int)).toNat = m by omega]
    exact (rdig_pos m h1 w).mono fun _ _ ⟨h1, h2⟩ => ⟨h1, h2.symm⟩

/-- the table of powers of ten is as the program lays it -/
def Tab (w : World) : Prop := Lib.TabIs Tryd.prog w "internal/strconv.uint64pow10" .u64 Lib.pow10Tab
theorem tab_g : Tryd.prog.globalNamed "internal/strconv.uint64pow10" = some 0 := by kernel_rfl
theorem var_kept {P : Program} {W W' : World} {n : String} {cs : Array Value} (h : W.var? P n = some cs) (hb : Below W.heap.size W W') : W'.var? P n = some cs := by
  unfold World.var? at h ⊢
  cases hg : P.globalNamed n with
  | none => rw [hg] at h; simp at h
  | some g =>
    rw [hg] at h
    simp only [Option.bind_some] at h ⊢
    have hlt : g < W.heap.size := by
      rcases Nat.lt_or_ge g W.heap.size with h' | h'
      · exact h'
      · rw [Array.getElem?_eq_none h'] at h; simp at h
    rw [hb.block g hlt]
    exact h
theorem Tab.below {w w' : World} (h : Tab w) (hb : Below w.heap.size w w') : Tab w' := var_kept h hb
/-- the program's Digits -/
theorem dig_any (n : Int) (h0 : -9223372036854775808 ≤ n) (h1 : n ≤ 9223372036854775807) (w : World) (ht : Tab w) :
    Calls Tryd.prog 27 #[.int .i64 n] w fun e w' => e = .returned (.string (txt (Lib.itoa n))) ∧ Below w.heap.size w w' := by
  have HI := Lib.hid (itoa_calls n h0 h1 w ht)
  clear ht
  go_enter Tryd.func27, Tryd.ntmps27
  go_wp2_with fail
  refine (HI.out).mono ?_
  rintro e w1 ⟨rfl, k, os, rfl⟩
  have HB : Hid (Below w.heap.size w (Go.Sort.grow (w.drewN k) os)) := Lib.hid ⟨rfl, rfl, rfl, by simp [Go.Sort.grow, World.drewN], fun i hi => by simp [Go.Sort.grow, World.drewN, Array.getElem?_append_left hi]⟩
  go_wp2
  go_ret
  exact ⟨rfl, HB.out⟩

end Go.Proofs.YtheggpklgeobkaaDoor
