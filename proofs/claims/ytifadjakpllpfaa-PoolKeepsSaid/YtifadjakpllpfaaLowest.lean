/-
  The law PoolLowest, walked.
-/
import Derived.Test.YtifadjakpllpfaaRuns
namespace Go.Proofs.Ytifadjakpllpfaa
open Go.RowKit

theorem Rd.of_own' {α : Type} {enc : α → List Value} {k : Nat} (hk : ∀ x, (enc x).length = k) (hk0 : 0 < k) {w : World} {base n c : Nat} {e : TypeId} {A : Option Addr} {l : List α} (h : w.ownsRow base e k (.slice A n c) n (flatE enc l)) : Rd enc k w A n l := by
  obtain ⟨A', c', hv, -, hr⟩ := Rd.of_own hk hk0 h
  cases hv
  exact hr
theorem usesAt_at (ts : List (Value × Int)) (i : Nat) : usesAt ts i = ((ts[i]?).map (·.2)).getD 0 := by
  cases hl : look ts i with
  | some j =>
    obtain ⟨hj, t, ht, hu⟩ := look_some hl
    obtain rfl : i = j := by omega
    rw [usesAt_of ht hu, ht]
    rfl
  | none =>
    rw [usesAt_not hl]
    rcases look_none hl with h | h | ⟨j, t, hj, ht, h0⟩
    · omega
    · rw [List.getElem?_eq_none (by omega)]; rfl
    · obtain rfl : i = j := by omega
      rw [ht]
      exact h0.symm
theorem xget_at (xs : List XV) (i : Nat) : (xget xs i).uses = ((xs[i]?).map (·.uses)).getD 0 := by
  rcases xget_cases xs i with ⟨j, x, hj, hx, -, -, h⟩ | ⟨-, hg, h | h | ⟨j, x, hj, hx, h0⟩⟩
  · obtain rfl : i = j := by omega
    rw [h, hx]; rfl
  · omega
  · rw [hg, List.getElem?_eq_none (by omega)]; rfl
  · obtain rfl : i = j := by omega
    rw [hg, hx]
    exact h0.symm
theorem put_other {α : Type} (l : List α) {s i : Nat} (x : α) (hs : s ≤ l.length) (h : i ≠ s) : (put l s x)[i]? = l[i]? := by
  unfold put
  split
  · by_cases hi : i < l.length
    · rw [List.getElem?_append_left hi]
    · rw [List.getElem?_eq_none (by simp; omega), List.getElem?_eq_none (by omega)]
  · rw [List.getElem?_set_ne (by omega)]
theorem put_same {α : Type} (l : List α) {s : Nat} (x : α) (hs : s ≤ l.length) : (put l s x)[s]? = some x := by
  unfold put
  split
  · rename_i h; subst h; simp
  · rw [List.getElem?_set_self (by omega)]
theorem slot_le (ts : List (Value × Int)) : slot ts ≤ ts.length := List.findIdx_le_length
theorem slot_used {ts : List (Value × Int)} {i : Nat} (h : i < slot ts) : usesAt ts i ≠ 0 := by
  have h1 := List.not_of_lt_findIdx h
  have hl : i < ts.length := Nat.lt_of_lt_of_le h (slot_le ts)
  rw [usesAt_at, List.getElem?_eq_getElem hl]
  simpa [free] using h1
theorem Rel.usesAt_eq {w0 w : World} {B : Nat} {ts : List (Value × Int)} {xs : List XV} (R : Rel w0 w B ts xs) (i : Nat) : usesAt ts i = (xget xs i).uses := by
  rw [usesAt_at, xget_at, ← List.getElem?_map, ← List.getElem?_map, R.usesEq]

/-- the kit's wpAnyH_take, the slot named: so that the frame can be laid out behind it -/
theorem take_at {P : Program} {md : Region.Mode} {ops : Array Oper} {Q : Exit → Act → World → Prop} {S : World → Prop} {i d : Nat} {oi : Oper} {v : Value} {fuel : Nat} {listed : Array Bool} {a : Act} {w : World} (hi : ops[i]? = some oi) (hd : oi.dst = some d)
    (hs : Region.noSelect ops = true) (hf : Region.free md ops listed i = true) (hr : (Region.ready md ops listed).contains i = true)
    (hQ : ∀ c a w, Q (.panic c) (a.put oi.dst v) w → Q (.panic c) a w) (hy : YieldsIf P ops S oi v a) (hS : S w)
    (h : wpAnyH P md ops Q S fuel (listed.setIfInBounds i true) (a.put (some d) v) w) : wpAnyH P md ops Q S (fuel + 1) listed a w :=
  wpAnyH_take hi hs hf hr hQ hy hS (by rw [hd]; exact h)

@[go_sem] theorem field_uses (a0 a1 a2 a3 a4 a5 a6 a7 a8 a9 : Value) (w : World) : (Instr.field 37 (.agg #[a0, a1, a2, a3, a4, a5, a6, a7, a8, a9]) 4).run Try.prog w = .ok a9 w := by kernel_rfl

set_option maxRecDepth 100000 in
set_option maxHeartbeats 4000000 in
theorem lowest_any (SA : Option Addr) (m sc : Nat) (script : List Stp) (text : ByteArray) (W : World) (hs : Rd stp 9 W SA m script ∧ m ≤ maxLen ∧ ∀ s ∈ script, StpRd W s) :
    Calls Try.prog 5 #[.slice SA m sc, .string text] W fun e w' => e = .returned (.bool true) ∧ Below W.heap.size W w' := by
  have HA := Lib.hid (awake_any W)
  have HS := Lib.hid (fun w1 (h : Below W.heap.size W w1) => small_any SA m sc script w1 (hs.1.below h) hs.2.1)
  have HRD := Lib.hid hs
  have hlen := hs.1.1
  clear hs
  go_enter Try.func5, Try.ntmps5
  go_wp2_with fail
  refine (HA.out).mono ?_
  rintro e w1 ⟨rfl, hb1⟩
  have HB1 := Lib.hid hb1
  clear hb1 HA
  go_wp2_with fail
  refine (HS.out _ HB1.out).mono ?_
  rintro e w2 ⟨rfl, hb2⟩
  have HB2 := Lib.hid (below_step HB1.out hb2)
  clear hb2 HS
  by_cases hsm : smallB script = true
  · obtain ⟨hm, hfew⟩ := few_of hsm
    rw [hlen] at hm
    have HFEW := Lib.hid hfew
    rw [hsm]
    clear hfew hsm
    by_cases hn : 50 < text.size
    · have hd : decide ((text.size : Int) > 50) = true := by simp; omega
      go_wp2
      go_ret
      exact ⟨rfl, HB2.out⟩
    · have hd : decide ((text.size : Int) > 50) = false := by simp; omega
      go_wp2_with fail
      refine (new_any 30 w2 (by decide) (by decide)).mono ?_
      rintro e w3 ⟨rfl, hp3, hb3⟩
      have HST : Hid (St W w3 w2.heap.size 30 0 (some ⟨w2.heap.size, 0, none⟩) true none 0 0 [] []) := .live _ _ _ _ _ _ (Live.start hp3)
      have HB3 := Lib.hid hb3
      clear hp3 hb3
      go_wp2_with fail
      refine (rnew_any 30 w3).mono ?_
      rw [if_neg (by decide)]
      rintro e w4 ⟨rfl, hb4⟩
      have HB4 := Lib.hid hb4
      have hlow : w2.heap.size ≤ w4.heap.size := Nat.le_trans HB3.out.size hb4.size
      have HRUN := Lib.hid (run_any (HST.out.ext (Ext.below hb4)) SA m sc script HRD.out.1 hm HRD.out.2.2 HFEW.out HB2.out.size (below_step (below_step HB2.out HB3.out) hb4) hlow)
      clear hb4
      go_wp2_with fail
      refine (HRUN.out).mono ?_
      rintro e w5 ⟨A, n, c, ts, xs, rfl, hst, hmut⟩
      have HM5 := Lib.hid hmut
      have HAL : Hid (Below w5.heap.size w5 (w5.alloc (.cells #[.bool true, .int .i64 30, .slice A n c] 30))) := Lib.hid (by go_grown)
      have HX6 := Lib.hid (heap_alloc_new w5 (.cells #[.bool true, .int .i64 30, .slice A n c] 30))
      have HL6 : Hid (Live W (w5.alloc (.cells #[.bool true, .int .i64 30, .slice A n c] 30)) w2.heap.size w2.heap.size 30 A n c ts xs m) := by
        cases hst with
        | live g _ _ _ _ _ L => exact L.ext (Ext.below HAL.out)
      clear hst hmut HRUN HST
      obtain ⟨v6, hp6⟩ := HL6.out.pool
      have HP6 := Lib.hid hp6
      have HAT := Lib.hid (addText_any text hp6 (by have := HL6.out.size; omega) (Nat.le_of_lt HL6.out.low))
      clear hp6
      have hlt5 : w5.heap.size < (w5.alloc (.cells #[.bool true, .int .i64 30, .slice A n c] 30)).heap.size := by simp
      go_wp2_with fail
      refine (HAT.out).mono ?_
      rintro e w7 ⟨rfl, ⟨v7, hp7⟩, hm7⟩
      have HX7 := Lib.hid (hm7.box HX6.out (by decide) (by decide))
      have HM7 := Lib.hid ((HM5.out.trans (Mut.below HAL.out)).trans hm7)
      have HW7 := Lib.hid (below_step HB2.out ((below_step HB3.out HB4.out).trans (HM7.out.lt hlow)))
      have HO7 := Lib.hid (own_mut HL6.out.own (by decide) (by decide) hm7)
      clear hm7 HAT
      unfold addId addE
      unfold addTs at hp7
      by_cases hf : (used ts : Int) = 30
      · rw [if_pos hf] at hp7
        rw [if_pos hf, if_pos hf]
        have HLEN := Lib.hid (len_any hp7)
        rw [hf] at HLEN
        clear hp7 hf
        go_wp2_with fail
        refine (HLEN.out).mono ?_
        rintro e w8 ⟨rfl, rfl⟩
        go_wp2
        go_ret
        exact ⟨rfl, HW7.out⟩
      · rw [if_neg hf] at hp7
        rw [if_neg hf, if_neg hf]
        clear hf
        have hsl := slot_le ts
        have HSEQ := Lib.hid (fun i (h : i ≠ slot ts) => show usesAt (put ts (slot ts) ((Form.text text).val, 1)) ((i : Nat) : Int) = (xget xs i).uses by
          rw [usesAt_at, put_other ts _ hsl h, ← usesAt_at, HL6.out.rel.usesAt_eq])
        have HSNZ := Lib.hid (fun i (h : i < slot ts) => show (xget xs (i : Nat)).uses ≠ 0 by
          rw [← HL6.out.rel.usesAt_eq]; exact slot_used h)
        have HVAL := Lib.hid (valAt_of (put_same ts ((Form.text text).val, (1 : Int)) hsl) (by simp))
        have HUSE := Lib.hid (usesAt_of (put_same ts ((Form.text text).val, (1 : Int)) hsl) (by simp))
        have HP7 : Hid (PoolAt w7 w2.heap.size w2.heap.size 30 v7 (put ts (slot ts) ((Form.text text).val, 1))) := hp7
        clear hp7 hsl
        generalize slot ts = s at *
        generalize put ts s ((Form.text text).val, (1 : Int)) = ts' at *
        go_wp2
        go_loopw [12] (fun u wx => ∃ k : Nat, k ≤ 40 ∧ u = .int .i64 k ∧ Below w7.heap.size w7 wx) (fun u _ => 40 - (intOf u).toNat)
        case atStart => exact ⟨0, Nat.zero_le _, rfl, Below.refl _ _⟩
        case round =>
          obtain ⟨k, hk, rfl, hb⟩ := hrel
          by_cases hlt : k < 40
          · have hk40 : (k : Int) < 40 := by omega
            have HC : Hid (∀ w', Below wr.heap.size wr w' → (Below wr.heap.size wr w' ∧ w'.cell? ⟨w5.heap.size, 0, none⟩ = some (.bool true) ∧ w'.cell? ⟨w5.heap.size, 1, none⟩ = some (.int .i64 30) ∧ w'.cell? ⟨w5.heap.size, 2, none⟩ = some (.slice A n c))) := fun w' h => by
              have hh := below_step hb h
              obtain ⟨q0, q1, q2, -⟩ := three_box ((hh.block _ (Array.getElem?_eq_some_iff.1 HX7.out).1).trans HX7.out)
              exact ⟨h, q0, q1, q2⟩
            have HU0 := Lib.hid (fun wy (h : Below wr.heap.size wr wy) => uses_any (k : Int) (HP7.out.mono (below_step hb h)))
            have HG0 := Lib.hid (fun wy (h : Below wr.heap.size wr wy) => rget_any true 30 A n c xs (k : Int) wy ((Rd.of_own' xv_len (by decide) HO7.out).below (below_step hb h)) (by have := HL6.out.rd.2; have := HL6.out.size; omega))
            have HBW := Lib.hid hb
            obtain ⟨-, q0, q1, q2⟩ := HC.out wr (Below.refl _ _)
            clear hb
            by_cases hks : k = s
            · subst hks
              have d1 : decide ((k : Int) < (k : Int)) = false := by simp
              have d2 : ((k : Int) != (k : Int)) = false := by simp
              clear HU0 HG0
              go_wp2_with fail
              go_quiet (fail)
              go_wp2
              go_roundw
              case rel => exact ⟨k + 1, by omega, by go_num, below_drewN HBW.out _⟩
              case measure => simp [intOf]; omega
            · have hq := HSEQ.out k hks
              have hnz := HSNZ.out k
              rw [hq] at HU0
              generalize xget xs (k : Int) = x at *
              obtain ⟨kind, int, tx, op, L, ln, lc, port, backup, R, rn, rc, pipe, uses⟩ := x
              simp only at HU0 hnz
              have HU : Hid (∀ wy, Below wr.heap.size wr wy → Calls Try.prog 16 #[.pointer (some ⟨w2.heap.size, 0, none⟩), .int .i64 k] wy fun e w' => e = .returned (.int .i64 uses) ∧ (Below wr.heap.size wr w' ∧ w'.cell? ⟨w5.heap.size, 0, none⟩ = some (.bool true) ∧ w'.cell? ⟨w5.heap.size, 1, none⟩ = some (.int .i64 30) ∧ w'.cell? ⟨w5.heap.size, 2, none⟩ = some (.slice A n c))) := fun wy h =>
                (HU0.out wy h).mono fun e w' ⟨he, hw⟩ => ⟨he, by rw [hw]; exact HC.out _ h⟩
              have HG : Hid (∀ wy, Below wr.heap.size wr wy → Calls Try.prog 11 #[.agg #[.bool true, .int .i64 30, .slice A n c], .int .i64 k] wy fun e w' => e = .returned (.agg #[.int .i64 kind, .int .i64 int, .string tx, .int .i64 op, .slice L ln lc, .int .i64 port, .int .i64 backup, .slice R rn rc, .bool pipe, .int .i64 uses]) ∧ (Below wr.heap.size wr w' ∧ w'.cell? ⟨w5.heap.size, 0, none⟩ = some (.bool true) ∧ w'.cell? ⟨w5.heap.size, 1, none⟩ = some (.int .i64 30) ∧ w'.cell? ⟨w5.heap.size, 2, none⟩ = some (.slice A n c))) := fun wy h =>
                (HG0.out wy h).mono fun e w' ⟨he, hb⟩ => ⟨he, HC.out _ (below_step h hb)⟩
              have d2 : ((k : Int) != (s : Int)) = true := by simp; omega
              have d3 : (uses != uses) = false := by simp
              clear HU0 HG0 hq
              by_cases hlt2 : k < s
              · have d1 : decide ((k : Int) < (s : Int)) = true := by simp; omega
                have d4 : (uses == 0) = false := by simpa using hnz hlt2
                clear hnz
                go_wp2_with fail
                go_region_held3 (fun w' => Below wr.heap.size wr w' ∧ w'.cell? ⟨w5.heap.size, 0, none⟩ = some (.bool true) ∧ w'.cell? ⟨w5.heap.size, 1, none⟩ = some (.int .i64 30) ∧ w'.cell? ⟨w5.heap.size, 2, none⟩ = some (.slice A n c))
                  (first | assumption | exact ⟨by assumption, by assumption, by assumption, by assumption⟩ | exact HC.out _ (Below.refl _ _).drew)
                  (first | (go_at_call 16; (with_reducible refine (HU.out _ ?_).mono ?_); (exact And.left (by assumption)); rintro e w10 ⟨rfl, hbA, z0, z1, z2⟩) | (go_at_call 11; (with_reducible refine (HG.out _ ?_).mono ?_); (exact And.left (by assumption)); rintro e w10 ⟨rfl, hbA, z0, z1, z2⟩))
                go_wp2
                go_roundw
                case rel => exact ⟨k + 1, by omega, by go_num, below_step HBW.out hbA⟩
                case measure => simp [intOf]; omega
              · have d1 : decide ((k : Int) < (s : Int)) = false := by simp; omega
                clear hnz
                go_wp2_with fail
                refine wp_region_held_drew (S := (fun w' => Below wr.heap.size wr w' ∧ w'.cell? ⟨w5.heap.size, 0, none⟩ = some (.bool true) ∧ w'.cell? ⟨w5.heap.size, 1, none⟩ = some (.int .i64 30) ∧ w'.cell? ⟨w5.heap.size, 2, none⟩ = some (.slice A n c))) (by kernel_rfl) ?_ (fun hHeld => ?_)
                · exact HC.out _ (Below.refl _ _).drew
                refine take_at (i := 0) (d := 56) (v := ?_) rfl (by rfl) (by kernel_rfl) (by kernel_rfl) (by kernel_rfl) (fun _ _ _ h => h) (Or.inl ⟨by rfl, ?hy0⟩) (by assumption) ?rest0
                case hy0 => (intro w hSw; (try dsimp only at hSw); go_simp; first | done | with_reducible rfl)
                simp only [Act.put, List.setIfInBounds_toArray, List.set_cons_zero, List.set_cons_succ]
                refine take_at (i := 1) (d := 57) (v := ?_) rfl (by rfl) (by kernel_rfl) (by kernel_rfl) (by kernel_rfl) (fun _ _ _ h => h) (Or.inl ⟨by rfl, ?hy1⟩) (by assumption) ?rest1
                case hy1 => (intro w hSw; (try dsimp only at hSw); go_simp; first | done | with_reducible rfl)
                simp only [Act.put, List.setIfInBounds_toArray, List.set_cons_zero, List.set_cons_succ]
                refine take_at (i := 2) (d := 58) (v := ?_) rfl (by rfl) (by kernel_rfl) (by kernel_rfl) (by kernel_rfl) (fun _ _ _ h => h) (Or.inl ⟨by rfl, ?hy2⟩) (by assumption) ?rest2
                case hy2 => (intro w hSw; (try dsimp only at hSw); go_simp; first | done | with_reducible rfl)
                simp only [Act.put, List.setIfInBounds_toArray, List.set_cons_zero, List.set_cons_succ]
                refine take_at (i := 3) (d := 59) (v := ?_) rfl (by rfl) (by kernel_rfl) (by kernel_rfl) (by kernel_rfl) (fun _ _ _ h => h) (Or.inl ⟨by rfl, ?hy3⟩) (by assumption) ?rest3
                case hy3 => (intro w hSw; (try dsimp only at hSw); go_simp; first | done | with_reducible rfl)
                simp only [Act.put, List.setIfInBounds_toArray, List.set_cons_zero, List.set_cons_succ]
                refine take_at (i := 4) (d := 60) (v := undef) rfl (by rfl) (by kernel_rfl) (by kernel_rfl) (by kernel_rfl) (fun _ _ _ h => h) (Or.inr ⟨by rfl, rfl⟩) (by assumption) ?_
                simp only [Act.put, List.setIfInBounds_toArray, List.set_cons_zero, List.set_cons_succ]
                refine take_at (i := 5) (d := 61) (v := undef) rfl (by rfl) (by kernel_rfl) (by kernel_rfl) (by kernel_rfl) (fun _ _ _ h => h) (Or.inr ⟨by rfl, rfl⟩) (by assumption) ?_
                simp only [Act.put, List.setIfInBounds_toArray, List.set_cons_zero, List.set_cons_succ]
                refine take_at (i := 6) (d := 62) (v := undef) rfl (by rfl) (by kernel_rfl) (by kernel_rfl) (by kernel_rfl) (fun _ _ _ h => h) (Or.inr ⟨by rfl, rfl⟩) (by assumption) ?_
                simp only [Act.put, List.setIfInBounds_toArray, List.set_cons_zero, List.set_cons_succ]
                refine take_at (i := 7) (d := 63) (v := undef) rfl (by rfl) (by kernel_rfl) (by kernel_rfl) (by kernel_rfl) (fun _ _ _ h => h) (Or.inr ⟨by rfl, rfl⟩) (by assumption) ?_
                simp only [Act.put, List.setIfInBounds_toArray, List.set_cons_zero, List.set_cons_succ]
                refine take_at (i := 8) (d := 64) (v := ?_) rfl (by rfl) (by kernel_rfl) (by kernel_rfl) (by kernel_rfl) (fun _ _ _ h => h) (Or.inl ⟨by rfl, ?hy8⟩) (by assumption) ?rest8
                case hy8 => (intro w hSw; (try dsimp only at hSw); go_simp; first | done | with_reducible rfl)
                simp only [Act.put, List.setIfInBounds_toArray, List.set_cons_zero, List.set_cons_succ]
                refine take_at (i := 9) (d := 65) (v := ?_) rfl (by rfl) (by kernel_rfl) (by kernel_rfl) (by kernel_rfl) (fun _ _ _ h => h) (Or.inl ⟨by rfl, ?hy9⟩) (by assumption) ?rest9
                case hy9 => (intro w hSw; (try dsimp only at hSw); go_simp; first | done | with_reducible rfl)
                simp only [Act.put, List.setIfInBounds_toArray, List.set_cons_zero, List.set_cons_succ]
                refine take_at (i := 10) (d := 66) (v := ?_) rfl (by rfl) (by kernel_rfl) (by kernel_rfl) (by kernel_rfl) (fun _ _ _ h => h) (Or.inl ⟨by rfl, ?hy10⟩) (by assumption) ?rest10
                case hy10 => (intro w hSw; (try dsimp only at hSw); go_simp; first | done | with_reducible rfl)
                simp only [Act.put, List.setIfInBounds_toArray, List.set_cons_zero, List.set_cons_succ]
                refine take_at (i := 11) (d := 67) (v := ?_) rfl (by rfl) (by kernel_rfl) (by kernel_rfl) (by kernel_rfl) (fun _ _ _ h => h) (Or.inl ⟨by rfl, ?hy11⟩) (by assumption) ?rest11
                case hy11 => (intro w hSw; (try dsimp only at hSw); go_simp; first | done | with_reducible rfl)
                simp only [Act.put, List.setIfInBounds_toArray, List.set_cons_zero, List.set_cons_succ]
                refine take_at (i := 12) (d := 68) (v := ?_) rfl (by rfl) (by kernel_rfl) (by kernel_rfl) (by kernel_rfl) (fun _ _ _ h => h) (Or.inl ⟨by rfl, ?hy12⟩) (by assumption) ?rest12
                case hy12 => (intro w hSw; (try dsimp only at hSw); go_simp; first | done | with_reducible rfl)
                simp only [Act.put, List.setIfInBounds_toArray, List.set_cons_zero, List.set_cons_succ]
                refine take_at (i := 13) (d := 69) (v := ?_) rfl (by rfl) (by kernel_rfl) (by kernel_rfl) (by kernel_rfl) (fun _ _ _ h => h) (Or.inl ⟨by rfl, ?hy13⟩) (by assumption) ?rest13
                case hy13 => (intro w hSw; (try dsimp only at hSw); go_simp; first | done | with_reducible rfl)
                simp only [Act.put, List.setIfInBounds_toArray, List.set_cons_zero, List.set_cons_succ]
                refine take_at (i := 14) (d := 70) (v := ?_) rfl (by rfl) (by kernel_rfl) (by kernel_rfl) (by kernel_rfl) (fun _ _ _ h => h) (Or.inl ⟨by rfl, ?hy14⟩) (by assumption) ?rest14
                case hy14 => (intro w hSw; (try dsimp only at hSw); go_simp; first | done | with_reducible rfl)
                simp only [Act.put, List.setIfInBounds_toArray, List.set_cons_zero, List.set_cons_succ]
                refine take_at (i := 15) (d := 71) (v := ?_) rfl (by rfl) (by kernel_rfl) (by kernel_rfl) (by kernel_rfl) (fun _ _ _ h => h) (Or.inl ⟨by rfl, ?hy15⟩) (by assumption) ?rest15
                case hy15 => (intro w hSw; (try dsimp only at hSw); go_simp; first | done | with_reducible rfl)
                simp only [Act.put, List.setIfInBounds_toArray, List.set_cons_zero, List.set_cons_succ]
                refine take_at (i := 17) (d := 73) (v := ?_) rfl (by rfl) (by kernel_rfl) (by kernel_rfl) (by kernel_rfl) (fun _ _ _ h => h) (Or.inl ⟨by rfl, ?hy17⟩) (by assumption) ?rest17
                case hy17 => (intro w hSw; (try dsimp only at hSw); go_simp; first | done | with_reducible rfl)
                simp only [Act.put, List.setIfInBounds_toArray, List.set_cons_zero, List.set_cons_succ]
                refine take_at (i := 18) (d := 74) (v := ?_) rfl (by rfl) (by kernel_rfl) (by kernel_rfl) (by kernel_rfl) (fun _ _ _ h => h) (Or.inl ⟨by rfl, ?hy18⟩) (by assumption) ?rest18
                case hy18 => (intro w hSw; (try dsimp only at hSw); go_simp; first | done | with_reducible rfl)
                simp only [Act.put, List.setIfInBounds_toArray, List.set_cons_zero, List.set_cons_succ]
                refine wpAnyH_ready (rs := [16]) (by kernel_rfl) (by simp) ?_
                refine AllReadyH.cons rfl (fun K hK => ?_) AllReadyH.nil
                go_simp
                refine (HU.out _ ?_).mono ?_
                · exact hHeld.1
                rintro e w26 ⟨rfl, hc10⟩
                refine hK.out _ _ hc10 (fun hHeld => ?_)
                clear hK K hc10
                try simp only [Act.put, List.setIfInBounds_toArray, List.set_cons_zero, List.set_cons_succ]
                refine wpAnyH_ready (rs := [19]) (by kernel_rfl) (by simp) ?_
                refine AllReadyH.cons rfl (fun K hK => ?_) AllReadyH.nil
                go_simp
                refine (HG.out _ ?_).mono ?_
                · exact hHeld.1
                rintro e w29 ⟨rfl, hc10⟩
                refine hK.out _ _ hc10 (fun hHeld => ?_)
                clear hK K hc10
                try simp only [Act.put, List.setIfInBounds_toArray, List.set_cons_zero, List.set_cons_succ]
                refine take_at (i := 20) (d := 76) (v := ?_) rfl (by rfl) (by kernel_rfl) (by kernel_rfl) (by kernel_rfl) (fun _ _ _ h => h) (Or.inl ⟨by rfl, ?hy20⟩) (by assumption) ?rest20
                case hy20 => (intro w hSw; (try dsimp only at hSw); go_simp; first | done | with_reducible rfl)
                simp only [Act.put, List.setIfInBounds_toArray, List.set_cons_zero, List.set_cons_succ]
                refine take_at (i := 21) (d := 77) (v := ?_) rfl (by rfl) (by kernel_rfl) (by kernel_rfl) (by kernel_rfl) (fun _ _ _ h => h) (Or.inl ⟨by rfl, ?hy21⟩) (by assumption) ?rest21
                case hy21 => (intro w hSw; (try dsimp only at hSw); go_simp; first | done | with_reducible rfl)
                simp only [Act.put, List.setIfInBounds_toArray, List.set_cons_zero, List.set_cons_succ]
                refine take_at (i := 22) (d := 78) (v := ?_) rfl (by rfl) (by kernel_rfl) (by kernel_rfl) (by kernel_rfl) (fun _ _ _ h => h) (Or.inl ⟨by rfl, ?hy22⟩) (by assumption) ?rest22
                case hy22 => (intro w hSw; (try dsimp only at hSw); go_simp; first | done | with_reducible rfl)
                simp only [Act.put, List.setIfInBounds_toArray, List.set_cons_zero, List.set_cons_succ]
                refine take_at (i := 23) (d := 79) (v := ?_) rfl (by rfl) (by kernel_rfl) (by kernel_rfl) (by kernel_rfl) (fun _ _ _ h => h) (Or.inl ⟨by rfl, ?hy23⟩) (by assumption) ?rest23
                case hy23 => (intro w hSw; (try dsimp only at hSw); go_simp; first | done | with_reducible rfl)
                simp only [Act.put, List.setIfInBounds_toArray, List.set_cons_zero, List.set_cons_succ]
                refine wpAnyH_done (by kernel_rfl) ?_ _
                go_wp2
                go_roundw
                case rel => exact ⟨k + 1, by omega, by go_num, below_step HBW.out hHeld.1⟩
                case measure => simp [intOf]; omega
          · have hk40 : k = 40 := by omega
            subst hk40
            have HT := Lib.hid (text_at (s : Int) (.text text) HVAL.out (HP7.out.mono hb))
            have HU := Lib.hid (uses_any (s : Int) (HP7.out.mono hb))
            rw [HUSE.out] at HU
            have HWF := Lib.hid (below_step HW7.out hb)
            clear hb
            go_wp2_with fail
            refine (HT.out).mono ?_
            rintro e w8 ⟨rfl, rfl⟩
            rw [show (Form.text text).str = text from rfl, show ((Form.text text).kind == 2) = true from rfl]
            go_wp2_with fail
            refine (HU.out).mono ?_
            rintro e w8 ⟨rfl, rfl⟩
            go_wp2
            go_ret
            exact ⟨rfl, HWF.out⟩
  · have hsm' : smallB script = false := by simpa using hsm
    rw [hsm']
    go_wp2
    go_ret
    exact ⟨rfl, HB2.out⟩

end Go.Proofs.Ytifadjakpllpfaa
