/-
  The program's Sum, of any row of tallies, none among them too.
-/
import Derived.Test.YtpkfmikpgfgbgaaDoorRAdd
namespace Go.Proofs.YtpkfmikpgfgbgaaDoor
open Go.RowKit

/-- the first so many of a row added -/
def addR (Z Y : Nat → Int) (o n : Nat) : Nat → Int := fun i => if o ≤ i ∧ i < o + n then Z i + Y i else Z i
theorem addR_zero (Z Y : Nat → Int) (o : Nat) : addR Z Y o 0 = Z := by funext i; unfold addR; rw [if_neg (by omega)]
theorem addR_succ (Z Y : Nat → Int) (o k : Nat) : addR Z Y o (k + 1) = upd (addR Z Y o k) (o + k) (Z (o + k) + Y (o + k)) := by
  funext i
  unfold addR upd
  by_cases h : i = o + k
  · subst h; rw [if_pos (by omega), if_pos rfl]
  · rw [if_neg h]
    show _ = if o ≤ i ∧ i < o + k then Z i + Y i else Z i
    by_cases h2 : o ≤ i ∧ i < o + k
    · rw [if_pos h2, if_pos (by omega)]
    · rw [if_neg h2, if_neg (by omega)]
theorem addR_at (Z Y : Nat → Int) (o k : Nat) : addR Z Y o k (o + k) = Z (o + k) := by unfold addR; rw [if_neg (by omega)]
theorem addR_bd {N M : Int} {Z Y : Nat → Int} (h : Bd N Z) (k : Bd M Y) (o n : Nat) : Bd (N + M) (addR Z Y o n) := fun i => by
  have := h i; have := k i; unfold addR; split <;> omega

set_option maxHeartbeats 2000000 in
theorem addrow_any {w : World} {b g : Nat} {t : TypeId} {Z Y : Nat → Int} (hb : TlAt w b t Z) (hg : TlAt w g t Y) (hbg : b ≠ g) (o n c c' : Nat) (ho : o + n ≤ 146) {N M : Int} (hZ : Bd N Z) (hY : Bd M Y) (hNM : N + M ≤ 2199023255552) :
    Calls Tryd.prog 21 #[.slice (some ⟨b, o, none⟩) n c, .slice (some ⟨g, o, none⟩) n c'] w fun e w' => e = .returned (.tuple #[]) ∧ TlAt w' b t (addR Z Y o n) ∧ w.grownBy w' (some b) := by
  have HB := Lib.hid hb
  have HG := Lib.hid hg
  have HZ := Lib.hid hZ
  have HY := Lib.hid hY
  have hn : (n : Int) ≤ 146 := by omega
  clear hb hg hZ hY
  go_enter Tryd.func21, Tryd.ntmps21
  go_wp2
  go_loopw [4, 5, 8] (fun _ _ u wr => ∃ k : Nat, k ≤ n ∧ u = .int .i64 k ∧ TlAt wr b t (addR Z Y o k) ∧ w.grownBy wr (some b)) (fun _ _ u _ => n - (intOf u).toNat)
  case atStart => exact ⟨0, Nat.zero_le _, rfl, by rw [addR_zero]; exact HB.out, ⟨rfl, rfl, rfl, Nat.le_refl _, fun _ _ _ => rfl⟩⟩
  case round =>
    obtain ⟨k, hk, rfl, ht, hgr⟩ := hrel
    by_cases hlt : k < n
    · have hk0 : (0 : Int) ≤ k := by omega
      have hkn : (k : Int) < n := by omega
      have c1 : wr.cell? ⟨g, o + k, none⟩ = some (.int .i64 (Y (o + k))) := (HG.out.grown hgr (by simpa using hbg)).cell (by omega)
      have c2 : wr.cell? ⟨b, o + k, none⟩ = some (.int .i64 (Z (o + k))) := by
        have := ht.cell (i := o + k) (by omega)
        rwa [addR_at] at this
      have f2 := ht.fr (o + k)
      have b1 := HZ.out (o + k)
      have b2 := HY.out (o + k)
      have hs := ht.set (i := o + k) (by omega) (Z (o + k) + Y (o + k))
      rw [← addR_succ] at hs
      have HS := Lib.hid hs
      have HGR := Lib.hid (grown_trans hgr (grown_set1 wr b (o + k) (.int .i64 (Z (o + k) + Y (o + k)))))
      clear ht hgr hs
      go_wp2
      go_roundw
      case rel => exact ⟨k + 1, by omega, by go_num, HS.out, HGR.out⟩
      case measure => simp [intOf]; omega
    · obtain rfl : k = n := by omega
      have HT := Lib.hid ht
      have HGR := Lib.hid hgr
      clear ht hgr
      go_wp2
      go_end0
      exact ⟨rfl, HT.out, HGR.out⟩

theorem grown_drew (w : World) (row : Option Nat) : w.grownBy w.drew row := ⟨rfl, rfl, rfl, Nat.le_refl _, fun _ _ _ => rfl⟩
theorem upd_bd {N M : Int} {Z : Nat → Int} (h : Bd N Z) {n : Int} (i : Nat) (hM : 0 ≤ M) (h0 : 0 ≤ n) (h1 : n ≤ N + M) : Bd (N + M) (upd Z i n) := fun j => by
  have := h j; unfold upd; split <;> omega
/-- a tally's block, or none -/
def ptrV (p : Option Nat) : Value := .pointer (p.map fun b => ⟨b, 0, none⟩)
def ptr1 (p : Option Nat) : List Value := [ptrV p]
theorem ptr1_len (p : Option Nat) : (ptr1 p).length = 1 := rfl
/-- all together -/
def plusP (F : Nat → Nat → Int) (Z : Nat → Int) : Option Nat → Nat → Int
  | none => Z
  | some b => addZ Z (F b)
def sumP (F : Nat → Nat → Int) (ps : List (Option Nat)) : Nat → Int := ps.foldl (plusP F) zeroZ
theorem sumP_snoc (F : Nat → Nat → Int) (ps : List (Option Nat)) (p : Option Nat) : sumP F (ps ++ [p]) = plusP F (sumP F ps) p := by simp [sumP, List.foldl_append]
theorem sumP_bd {F : Nat → Nat → Int} {N : Int} (hN : 0 ≤ N) (ps : List (Option Nat)) (h : ∀ b, some b ∈ ps → Bd N (F b)) : Bd (N * ps.length) (sumP F ps) := by
  suffices hh : ∀ (qs : List (Option Nat)) (Z : Nat → Int) (M : Int), (∀ b, some b ∈ qs → Bd N (F b)) → Bd M Z → Bd (M + N * qs.length) (qs.foldl (plusP F) Z) from by
    have := hh ps zeroZ 0 h Bd.zero
    rwa [Int.zero_add] at this
  intro qs
  induction qs with
  | nil => intro Z M _ hZ; simpa using hZ
  | cons p qs ih =>
    intro Z M h hZ
    have e : M + N * ((p :: qs).length : Int) = (M + N) + N * qs.length := by simp [Int.mul_add]; omega
    rw [e]
    refine ih (plusP F Z p) (M + N) (fun b hb => h b (List.mem_cons_of_mem _ hb)) ?_
    cases p with
    | none => exact hZ.mono (by omega)
    | some b => exact hZ.add (h b (by simp))
theorem sum_step (Z Y : Nat → Int) : ∀ i, i < 146 → addR (addR (addR (addR (upd Z 17 (Z 17 + Y 17)) Y 0 4) Y 4 13) Y 18 64) Y 82 64 i = addZ Z Y i := by
  intro i hi
  unfold addR upd addZ
  by_cases h1 : 82 ≤ i
  · rw [if_pos (by omega), if_neg (by omega), if_neg (by omega), if_neg (by omega), if_neg (by omega)]
  · rw [if_neg (by omega)]
    by_cases h2 : 18 ≤ i
    · rw [if_pos (by omega), if_neg (by omega), if_neg (by omega), if_neg (by omega)]
    · rw [if_neg (by omega)]
      by_cases h3 : i = 17
      · subst h3; rw [if_neg (by omega), if_neg (by omega), if_pos rfl]
      · by_cases h4 : 4 ≤ i
        · rw [if_pos (by omega), if_neg (by omega), if_neg h3]
        · rw [if_neg (by omega), if_pos (by omega), if_neg h3]

set_option maxRecDepth 100000 in
set_option maxHeartbeats 4000000 in
theorem sum_any {w : World} {A : Option Addr} {n c : Nat} {ps : List (Option Nat)} {F : Nat → Nat → Int} (hr : Rd ptr1 1 w A n ps) (hn : n ≤ 10) (ht : ∀ b, some b ∈ ps → TlAt w b 52 (F b) ∧ Bd 100000000000 (F b)) :
    Calls Tryd.prog 12 #[.slice A n c] w fun e w' => e = .returned (.pointer (some ⟨w.heap.size, 0, none⟩)) ∧ TlAt w' w.heap.size 52 (sumP F ps) ∧ Below w.heap.size w w' := by
  have hlen := hr.1
  have HR := Lib.hid hr
  have HT := Lib.hid ht
  have hn' : (n : Int) ≤ 10 := by omega
  clear hr ht
  go_enter Tryd.func12, Tryd.ntmps12
  go_wp2_with fail
  refine (new_any w).mono ?_
  rintro e w1 ⟨rfl, ht1, hb1⟩
  have HT1 := Lib.hid ht1
  have HB1 := Lib.hid hb1
  have hl1 := ht1.lt
  clear ht1 hb1
  go_wp2_with fail
  go_loopw [5, 9] (fun _ u wr => ∃ k : Nat, k ≤ n ∧ u = .int .i64 k ∧ TlAt wr w.heap.size 52 (sumP F (ps.take k)) ∧ Below w.heap.size w wr) (fun _ u _ => n - (intOf u).toNat)
  case atStart => exact ⟨0, Nat.zero_le _, rfl, HT1.out, HB1.out⟩
  case round =>
    obtain ⟨k, hk, rfl, ht, hb⟩ := hrel
    by_cases hlt : k < n
    · obtain ⟨p, b, off, hx, rfl, hcs⟩ := (HR.out.below hb).at_ hlt
      have hk0 : (0 : Int) ≤ k := by omega
      have hkn : (k : Int) < n := by omega
      have c1 : wr.cell? ⟨b, off + k, none⟩ = some (ptrV p) := by simpa using hcs 0 _ rfl
      have HX := Lib.hid (take_snoc hx)
      have HP := Lib.hid (List.mem_of_getElem? hx)
      have HTR := Lib.hid ht
      have HBR := Lib.hid hb
      have hsz := ht.lt
      clear hcs hx ht hb
      cases p with
      | none =>
        change wr.cell? ⟨b, off + k, none⟩ = some (.pointer none) at c1
        go_wp2
        go_roundw
        case rel => exact ⟨k + 1, by omega, by go_num, by rw [HX.out, sumP_snoc]; exact HTR.out, HBR.out⟩
        case measure => simp [intOf]; omega
      | some g =>
        change wr.cell? ⟨b, off + k, none⟩ = some (.pointer (some ⟨g, 0, none⟩)) at c1
        have hg := HT.out g HP.out
        have hgl := hg.1.lt
        have hgw := hg.1.below HBR.out
        have hbz := sumP_bd (N := 100000000000) (by omega) (ps.take k) (fun b hb => (HT.out b (List.mem_of_mem_take hb)).2)
        have hbz' : Bd 1000000000000 (sumP F (ps.take k)) := hbz.mono (by simp; omega)
        have HBZ := Lib.hid hbz'
        have HBG := Lib.hid hg.2
        have HG := Lib.hid hgw
        have hz1 := hbz' 17
        have hz2 := hg.2 17
        have c2 := HTR.out.cell (show 17 < 146 by omega)
        have f2 := HTR.out.fr 17
        have c3 := hgw.cell (show 17 < 146 by omega)
        clear hg hgw hbz hbz'
        generalize hZ : sumP F (ps.take k) = Z at *
        have HZ := Lib.hid hZ
        clear hZ
        generalize hY : F g = Y at *
        have HYY := Lib.hid hY
        clear hY
        go_wp2_with fail
        have e1 : IntKind.i64.wrap (Z 17 + Y 17) = Z 17 + Y 17 := IntWalk.i64_in _ (by omega)
        go_still_tail 11, (by kernel_rfl)
        go_wp2_with fail
        have hne : w.heap.size ≠ g := by omega
        have H1 := Lib.hid (grown_trans (grown_set1 wr w.heap.size 17 (.int .i64 (Z 17 + Y 17))) (grown_drew _ _))
        have T1 := Lib.hid ((HTR.out.set (show 17 < 146 by omega) (Z 17 + Y 17)).drewN 1)
        have G1 := Lib.hid ((HG.out.other (g := w.heap.size) (i := 17) (fun e => hne e.symm) (.int .i64 (Z 17 + Y 17))).drewN 1)
        have B1 := Lib.hid (upd_bd HBZ.out (n := Z 17 + Y 17) 17 (M := 100000000000) (by omega) (by omega) (by omega))
        change Hid (wr.grownBy (World.setCell wr _ _).drew _) at H1
        change Hid (TlAt (World.setCell wr _ _).drew _ _ _) at T1 G1
        clear c1 c2 c3 f2 e1 HG
        generalize (wr.setCell _ _).drew = w2 at H1 T1 G1 ⊢
        go_still_tail 8, (by kernel_rfl)
        change wpList _ _ _ _ _ w2.drew
        go_wp2_with fail
        refine (addrow_any (T1.out.drewN 1) (G1.out.drewN 1) hne 0 4 4 4 (by decide) B1.out HBG.out (by omega)).mono ?_
        rintro e w3 ⟨rfl, t2, g2⟩
        have T2 := Lib.hid t2
        have G2 := Lib.hid ((G1.out.drewN 1).grown g2 (by simpa using hne))
        have H2 := Lib.hid (grown_trans (grown_trans H1.out (grown_drew w2 _)) g2)
        have B2 := Lib.hid (addR_bd B1.out HBG.out 0 4)
        clear t2 g2 T1 G1 H1 B1
        go_wp2_with fail
        go_still_tail 8, (by kernel_rfl)
        change wpList _ _ _ _ _ w3.drew
        go_wp2_with fail
        refine (addrow_any (T2.out.drewN 1) (G2.out.drewN 1) hne 4 13 13 13 (by decide) B2.out HBG.out (by omega)).mono ?_
        rintro e w4 ⟨rfl, t3, g3⟩
        have T3 := Lib.hid t3
        have G3 := Lib.hid ((G2.out.drewN 1).grown g3 (by simpa using hne))
        have H3 := Lib.hid (grown_trans (grown_trans H2.out (grown_drew w3 _)) g3)
        have B3 := Lib.hid (addR_bd B2.out HBG.out 4 13)
        clear t3 g3 T2 G2 H2 B2
        go_wp2_with fail
        go_still_tail 8, (by kernel_rfl)
        change wpList _ _ _ _ _ w4.drew
        go_wp2_with fail
        refine (addrow_any (T3.out.drewN 1) (G3.out.drewN 1) hne 18 64 64 64 (by decide) B3.out HBG.out (by omega)).mono ?_
        rintro e w5 ⟨rfl, t4, g4⟩
        have T4 := Lib.hid t4
        have G4 := Lib.hid ((G3.out.drewN 1).grown g4 (by simpa using hne))
        have H4 := Lib.hid (grown_trans (grown_trans H3.out (grown_drew w4 _)) g4)
        have B4 := Lib.hid (addR_bd B3.out HBG.out 18 64)
        clear t4 g4 T3 G3 H3 B3
        go_wp2_with fail
        go_still_tail 8, (by kernel_rfl)
        change wpList _ _ _ _ _ w5.drew
        go_wp2_with fail
        refine (addrow_any (T4.out.drewN 1) (G4.out.drewN 1) hne 82 64 64 64 (by decide) B4.out HBG.out (by omega)).mono ?_
        rintro e w6 ⟨rfl, t5, g5⟩
        have T5 := Lib.hid t5
        have G5 := Lib.hid ((G4.out.drewN 1).grown g5 (by simpa using hne))
        have H5 := Lib.hid (grown_trans (grown_trans H4.out (grown_drew w5 _)) g5)
        have B5 := Lib.hid (addR_bd B4.out HBG.out 82 64)
        clear t5 g5 T4 G4 H4 B4
        have HBW := Lib.hid (HBR.out.grown H5.out HBR.out.size (fun x e => by cases e; exact Nat.le_refl _))
        have HT5 := Lib.hid (T5.out.congr (sum_step Z Y))
        go_wp2
        go_roundw
        case rel => exact ⟨k + 1, by omega, by go_num, by rw [HX.out, sumP_snoc, HZ.out]; show TlAt _ _ _ (addZ Z (F g)); rw [HYY.out]; exact HT5.out, HBW.out⟩
        case measure => simp [intOf]; omega
    · obtain rfl : k = n := by omega
      have HTR := Lib.hid ht
      have HBR := Lib.hid hb
      clear ht hb
      go_wp2
      go_ret
      exact ⟨rfl, by have := HTR.out; rwa [List.take_of_length_le (by omega)] at this, HBR.out⟩

end Go.Proofs.YtpkfmikpgfgbgaaDoor
