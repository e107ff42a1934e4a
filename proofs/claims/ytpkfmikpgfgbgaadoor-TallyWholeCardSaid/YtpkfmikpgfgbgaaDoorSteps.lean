/-
  The law's steps: how they lie in memory; small, plain.
-/
import Derived.Test.YtpkfmikpgfgbgaaDoorTold
import Derived.Laws.BytesArg
namespace Go.Proofs.YtpkfmikpgfgbgaaDoor
open Go.RowKit

/-- a step: a verdict, and a size -/
structure Sp where
  what : Int
  why : Int
  port : Int
  mpls : Bool
  A : Option Addr
  n : Nat
  c : Nat
  size : Int
def spc (s : Sp) : List Value := [.int .i64 s.what, .int .i64 s.why, .int .i64 s.port, .bool s.mpls, .slice s.A s.n s.c, .int .i64 s.size]
theorem spc_len (s : Sp) : (spc s).length = 6 := rfl
def u81 (x : Int) : List Value := [.int .u8 x]
theorem u81_len (x : Int) : (u81 x).length = 1 := rfl
/-- a step's bytes can be read -/
def SpRd (w : World) (s : Sp) : Prop := ∃ xs, Rd u81 1 w s.A s.n xs
theorem SpRd.below {w w' : World} {s : Sp} (h : SpRd w s) (hb : Below w.heap.size w w') : SpRd w' s := h.imp fun _ k => k.below hb
def dlS (s : Sp) : Nat → Int := dl s.what s.why s.port s.n s.size
def sumS (l : List Sp) : Nat → Int := l.foldl (fun Z s => addZ Z (dlS s)) zeroZ
theorem sumS_snoc (l : List Sp) (s : Sp) : sumS (l ++ [s]) = addZ (sumS l) (dlS s) := by simp [sumS, List.foldl_append]

theorem conv_any {w : World} {A : Option Addr} {n c : Nat} {xs : List Int} (h : Rd u81 1 w A n xs) : ∃ s : ByteArray, s.size = n ∧ (convert 33 9 (.slice A n c)).run Tryd.prog w = .ok (.string s) w := by
  by_cases hn : n = 0
  · subst hn
    refine ⟨ByteArray.empty, rfl, ?_⟩
    cases A with
    | none => exact run_convert_bytes_nil w _ _ Tryd.underlying33 Tryd.underlying5 0 c _ Tryd.underlying9
    | some a =>
      rw [run_convert_bytes_string w _ _ _ _ 0 c Tryd.underlying33 Tryd.underlying5 Tryd.underlying9]
      exact run_bytesToString w a 0 c [] rfl
  · obtain ⟨x, b, off, hx, rfl, -⟩ := h.at_ (i := 0) (by omega)
    refine ⟨strOfNums xs, by rw [strOfNums_size, h.1], ?_⟩
    exact run_convert_bytes_arg w _ _ Tryd.underlying33 Tryd.underlying5 b off n c xs h.1 (fun i hi => by
      obtain ⟨y, b', off', hy, e, hc⟩ := h.at_ hi
      obtain ⟨rfl, rfl⟩ : b = b' ∧ off = off' := by simpa using e
      have := hc 0 _ rfl
      rw [getD_of hy]
      simpa using this) _ Tryd.underlying9

set_option maxHeartbeats 1000000 in
theorem plain_any {w : World} (what why port : Int) (mpls : Bool) {A : Option Addr} {n : Nat} (c : Nat) {xs : List Int} (h : Rd u81 1 w A n xs) :
    Calls Tryd.prog 10 #[.agg #[.int .i64 what, .int .i64 why, .int .i64 port, .bool mpls, .slice A n c]] w fun e w' => ∃ s : ByteArray, e = .returned (.agg #[.int .i64 what, .int .i64 why, .int .i64 port, .bool mpls, .string s]) ∧ s.size = n ∧ Below w.heap.size w w' := by
  have hB : ∀ o1 o2, Below w.heap.size w ((w.alloc o1).alloc o2) := fun o1 o2 => by go_grown
  have HS := Lib.hid (fun o1 o2 => conv_any (c := c) (h.below (hB o1 o2)))
  have HB := Lib.hid hB
  clear h hB
  obtain ⟨s, hs, hconv⟩ := HS.out (.cells #[.int .i64 what, .int .i64 why, .int .i64 port, .bool mpls, .slice A n c] 35) (.cells #[.int .i64 0, .int .i64 0, .int .i64 0, .bool false, .string ⟨#[]⟩] 40)
  have HSZ := Lib.hid hs
  clear hs HS
  go_enter Tryd.func10, Tryd.ntmps10
  go_wp2
  refine bodyPost_ret (v := .agg #[.int .i64 what, .int .i64 why, .int .i64 port, .bool mpls, .string s]) (by simp [results, Tryd.results10, go_sem]) rfl ⟨s, rfl, HSZ.out, ?_⟩
  go_grown

/-- what small asks -/
def smallB (l : List Sp) : Bool := l.all (fun s => !decide (1000 < s.n)) && decide (l.length ≤ 60)
set_option maxHeartbeats 2000000 in
theorem small_any (A : Option Addr) (n c : Nat) (l : List Sp) (w : World) (hr : Rd spc 6 w A n l) (hn : n ≤ maxLen) :
    Calls Tryd.prog 6 #[.slice A n c] w fun e w' => e = .returned (.bool (smallB l)) ∧ w = w' := by
  have hlen := hr.1
  have HR := Lib.hid hr
  clear hr
  have hn' : n ≤ 9223372036854775807 := by simpa [maxLen] using hn
  clear hn
  go_enter Tryd.func6, Tryd.ntmps6
  go_wp2
  go_loop [3] (fun u => ∃ k : Nat, k ≤ n ∧ u = .int .i64 k ∧ (l.take k).all (fun s => !decide (1000 < s.n)) = true) (fun u => n - (intOf u).toNat)
  case atStart => exact ⟨0, Nat.zero_le _, rfl, rfl⟩
  case round =>
    obtain ⟨k, hk, rfl, hall⟩ := hrel
    by_cases hlt : k < n
    · obtain ⟨s, b, off, hx, rfl, hcs⟩ := HR.out.at_ hlt
      obtain ⟨what, why, port, mpls, A, m, c', size⟩ := s
      have c2 : w.cell? ⟨b, off + k * 6 + 4, none⟩ = some (.slice A m c') := hcs 4 _ rfl
      have hk0 : (0 : Int) ≤ k := by omega
      have hkn : (k : Int) < n := by omega
      have HX := Lib.hid (take_snoc hx)
      have HM := Lib.hid (List.mem_of_getElem? hx)
      have HALL := Lib.hid hall
      clear hcs hx hall
      by_cases h1 : 1000 < m
      · have d1 : decide ((m : Int) > 1000) = true := by simp; omega
        go_wp2
        go_ret
        refine ⟨?_, rfl⟩
        have : l.all (fun s => !decide (1000 < s.n)) = false := List.all_eq_false.2 ⟨_, HM.out, by simp [h1]⟩
        rw [smallB, this]; rfl
      · have d1 : decide ((m : Int) > 1000) = false := by simp; omega
        go_wp2
        go_round
        case rel => exact ⟨k + 1, by omega, by go_num, by rw [HX.out, List.all_append, HALL.out]; simp [h1]⟩
        case measure => simp [intOf]; omega
    · have hkn : n = k := by omega
      subst hkn
      have hs : smallB l = decide ((n : Int) ≤ 60) := by
        rw [List.take_of_length_le (by omega)] at hall
        rw [smallB, hall, hlen]
        simp
        omega
      clear hall
      go_wp2
      go_ret
      exact ⟨rfl, rfl⟩
theorem few_of {l : List Sp} (h : smallB l = true) : l.length ≤ 60 ∧ ∀ s ∈ l, s.n ≤ 1000 := by
  simp only [smallB, Bool.and_eq_true, decide_eq_true_eq, List.all_eq_true, Bool.not_eq_true', decide_eq_false_iff_not] at h
  exact ⟨h.2, fun s hs => by have := h.1 s hs; omega⟩
theorem sumS_bd (l : List Sp) (h : ∀ s ∈ l, s.n ≤ 1000) : Bd (65540 * l.length) (sumS l) := by
  suffices hh : ∀ (qs : List Sp) (Z : Nat → Int) (M : Int), (∀ s ∈ qs, s.n ≤ 1000) → Bd M Z → Bd (M + 65540 * qs.length) (qs.foldl (fun Z s => addZ Z (dlS s)) Z) from by
    have := hh l zeroZ 0 h Bd.zero
    rwa [Int.zero_add] at this
  intro qs
  induction qs with
  | nil => intro Z M _ hZ; simpa using hZ
  | cons p qs ih =>
    intro Z M h hZ
    have e : M + 65540 * ((p :: qs).length : Int) = (M + 65540) + 65540 * qs.length := by simp [Int.mul_add]; omega
    rw [e]
    exact ih _ (M + 65540) (fun s hs => h s (List.mem_cons_of_mem _ hs)) (hZ.add (Bd.dl _ _ _ _ _ (by have := h p (by simp); omega)))

end Go.Proofs.YtpkfmikpgfgbgaaDoor
