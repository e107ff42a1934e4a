/-
  The reference's row of interfaces, walked: find, Up, Mtu, Add, Remove, Set.
-/
import Derived.Test.YtheggpklgeobkaaDoorLaw
import Derived.Test.YtheggpklgeobkaaDoorMid
namespace Go.Proofs.YtheggpklgeobkaaDoor
open Go.RowKit

def pen (e : Pe) : List Value := [.int .i64 e.num, .int .i64 e.mtu, .bool e.up]
theorem pen_len (e : Pe) : (pen e).length = 3 := rfl
theorem pen_one (e : Pe) : ∀ u ∈ pen e, u.oneCell' = true := by
  intro u hu
  simp [pen] at hu
  rcases hu with rfl | rfl | rfl <;> rfl
/-- a row of interfaces of the call's own -/
def RowAt (w : World) (B : Nat) (v : Value) (l : List Pe) : Prop := w.ownsRow B 56 3 v l.length (flatE pen l)
theorem rowAt_nil (w : World) (B : Nat) : RowAt w B (.slice none 0 0) [] := World.ownsRow_nil _ _ _ _
theorem RowAt.below {w w' : World} {B : Nat} {v : Value} {l : List Pe} (h : RowAt w B v l) (hb : Below w.heap.size w w') : RowAt w' B v l := own_below h hb
theorem RowAt.rd {w : World} {B : Nat} {v : Value} {l : List Pe} (h : RowAt w B v l) : ∃ A c, v = .slice A l.length c ∧ l.length ≤ c ∧ Rd pen 3 w A l.length l := Rd.of_own pen_len (by decide) h
theorem RowAt.drewN {w : World} {B : Nat} {v : Value} {l : List Pe} (h : RowAt w B v l) (n : Nat) : RowAt (w.drewN n) B v l := h.below ⟨rfl, rfl, rfl, Nat.le_refl _, fun _ _ => rfl⟩
theorem Rd.drewN {α : Type} {enc : α → List Value} {k : Nat} {w : World} {A : Option Addr} {n : Nat} {l : List α} (h : Rd enc k w A n l) (m : Nat) : Rd enc k (w.drewN m) A n l := h.below ⟨rfl, rfl, rfl, Nat.le_refl _, fun _ _ => rfl⟩

theorem pos_of {l : List Pe} {n : Int} {k : Nat} (h1 : ∀ j e, j < k → l[j]? = some e → e.num < n) (h2 : k ≤ l.length) (h3 : ∀ e, l[k]? = some e → ¬ e.num < n) : posL l n = k := by
  unfold posL
  have h4 : l = l.take k ++ l.drop k := (List.take_append_drop k l).symm
  rw [h4, tw_append, List.length_take]
  · omega
  · intro x hx
    obtain ⟨j, hj, rfl⟩ := List.getElem_of_mem hx
    rw [List.length_take] at hj
    have := h1 j (l[j]'(by omega)) (by omega) (List.getElem?_eq_getElem _)
    rw [List.getElem_take]
    simpa using this
  · intro x hx
    have : l[k]? = some x := by
      rw [List.head?_drop] at hx; exact hx
    simpa using h3 x this

set_option maxRecDepth 100000 in
set_option maxHeartbeats 1000000 in
theorem find_any {w : World} {A : Option Addr} {m c : Nat} {l : List Pe} (hr : Rd pen 3 w A m l) (n : Int) (hm : m ≤ 1000000) :
    Calls Tryd.prog 30 #[.slice A m c, .int .i64 n] w fun e w' => e = .returned (.tuple #[.int .i64 (posL l n), .bool (isL l n)]) ∧ ∃ nd, w' = w.drewN nd := by
  have HR := Lib.hid hr
  have HL := Lib.hid hr.1
  clear hr
  go_enter Tryd.func30, Tryd.ntmps30
  go_wp2_with fail
  go_loop [6] (fun v => ∃ k : Nat, k ≤ m ∧ v = .int .i64 k ∧ ∀ j e, j < k → l[j]? = some e → e.num < n) (fun v => m - (intOf v).toNat)
  case atStart => exact ⟨0, Nat.zero_le _, rfl, fun j e hj => absurd hj (Nat.not_lt_zero j)⟩
  case round =>
    obtain ⟨k, hk, rfl, hbef⟩ := hrel
    have HBEF := Lib.hid hbef
    clear hbef
    by_cases hlt : k < m
    · obtain ⟨x, b, off, hx, rfl, hc⟩ := HR.out.at_ hlt
      have hk0 : (0 : Int) ≤ k := by omega
      have hk1 : (k : Int) < m := by omega
      have c0 := hc 0 _ rfl
      rw [Nat.add_zero] at c0
      have HX := Lib.hid hx
      clear hx hc
      by_cases hn : x.num < n
      · go_wp2_with fail
        go_round
        case rel =>
          refine ⟨k + 1, by omega, by go_num, fun j e hj he => ?_⟩
          by_cases h : j < k
          · exact HBEF.out j e h he
          · obtain rfl : j = k := by omega
            rw [HX.out] at he
            cases he
            exact hn
        case measure => simp [intOf]; omega
      · have hd : decide (x.num < n) = false := by simpa using hn
        have HP := Lib.hid (pos_of HBEF.out (by rw [HL.out]; omega) (fun e he => by rw [HX.out] at he; cases he; exact hn))
        have HI := Lib.hid (show isL l n = (x.num == n) by unfold isL; rw [HP.out, HX.out])
        go_wp2_with fail
        go_quiet (fail)
        go_wp2
        go_ret2
        rw [HP.out, HI.out]
        exact ⟨rfl, _, rfl⟩
    · obtain rfl : k = m := by omega
      have HP := Lib.hid (pos_of HBEF.out (by rw [HL.out]; omega) (fun e he => by have := (List.getElem?_eq_some_iff.1 he).1; have := HL.out; omega))
      have HI := Lib.hid (show isL l n = false by unfold isL; rw [HP.out, List.getElem?_eq_none (by rw [HL.out]; omega)])
      go_wp2_with fail
      go_quiet (fail)
      go_wp2
      go_ret2
      rw [HP.out, HI.out]
      exact ⟨rfl, _, rfl⟩
end Go.Proofs.YtheggpklgeobkaaDoor
