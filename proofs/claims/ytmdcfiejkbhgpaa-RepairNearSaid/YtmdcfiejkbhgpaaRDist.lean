/-
  The reference's right and Dist, walked.
-/
import Derived.Test.YtmdcfiejkbhgpaaRow
import Derived.StillTailTactics
import Derived.Deep.DeepCutAuto
import Derived.Deep.CutRange
namespace Go.Proofs.Ytmdcfiejkbhgpaa
open Go.RowKit

def rightG (n : Int) (l : List Lk) (v : Int) : Bool := chkG n l == 0 && decide (0 ≤ v) && decide (v < n)
theorem rightG_ok {n : Int} {l : List Lk} {v : Int} : rightG n l v = true ↔ GOk n l ∧ 0 ≤ v ∧ v < n := by
  unfold rightG
  rw [← chkG_ok (n := n) (l := l)]
  simp [and_assoc]
theorem below_dN {w : World} (n : Nat) : Below w.heap.size w (w.drewN n) := ⟨rfl, rfl, rfl, Nat.le_refl _, fun _ _ => rfl⟩

set_option maxRecDepth 100000 in
set_option maxHeartbeats 4000000 in
theorem rright_any {w : World} {A : Option Addr} {m c : Nat} {l : List Lk} (hr : Rd lkc 3 w A m l) (n v : Int) (hm : m ≤ 1000) :
    Calls Try.prog 47 #[.int .i64 n, .slice A m c, .int .i64 v] w fun e w' => e = .returned (.bool (rightG n l v)) ∧ Below w.heap.size w w' := by
  have HC := Lib.hid (rcheck_any (c := c) hr n hm)
  have HG := Lib.hid (show rightG n l v = (chkG n l == 0 && decide (0 ≤ v) && decide (v < n)) from rfl)
  clear hr
  generalize chkG n l = e at *
  by_cases h0 : e = 0
  · subst h0
    by_cases h1 : 0 ≤ v
    · by_cases h2 : v < n
      · have HV := Lib.hid (show rightG n l v = true by rw [HG.out]; simp [h1, h2])
        have d1 : decide (v ≥ 0) = true := decide_eq_true h1
        have d2 : decide (v < n) = true := decide_eq_true h2
        go_enter Try.func47, Try.ntmps47
        go_wp2_with (go_at_call 14; refine (HC.out).mono ?_; rintro e w' ⟨rfl, hb⟩)
        go_ret
        rw [HV.out]
        exact ⟨rfl, hb⟩
      · have HV := Lib.hid (show rightG n l v = false by rw [HG.out]; simp; omega)
        have d1 : decide (v ≥ 0) = true := decide_eq_true h1
        have d2 : decide (v < n) = false := decide_eq_false h2
        go_enter Try.func47, Try.ntmps47
        go_wp2_with (go_at_call 14; refine (HC.out).mono ?_; rintro e w' ⟨rfl, hb⟩)
        go_ret
        rw [HV.out]
        exact ⟨rfl, hb⟩
    · have HV := Lib.hid (show rightG n l v = false by rw [HG.out]; simp; omega)
      have d1 : decide (v ≥ 0) = false := decide_eq_false (by omega)
      go_enter Try.func47, Try.ntmps47
      go_wp2_with (go_at_call 14; refine (HC.out).mono ?_; rintro e w' ⟨rfl, hb⟩)
      go_ret
      rw [HV.out]
      exact ⟨rfl, hb⟩
  · have HV := Lib.hid (show rightG n l v = false by rw [HG.out]; simp [h0])
    have d0 : (e == 0) = false := by simpa using h0
    go_enter Try.func47, Try.ntmps47
    go_wp2_with (go_at_call 14; refine (HC.out).mono ?_; rintro e w' ⟨rfl, hb⟩)
    go_ret
    rw [HV.out]
    exact ⟨rfl, hb⟩

/-- the call gives a row of the least costs, of its own -/
def GivesD (w : World) (n : Int) (l : List Lk) (s : Int) (e : Ending) (w' : World) : Prop :=
  if rightG n l s = true then ∃ b, e = .returned (.slice (some ⟨b, 0, none⟩) n.toNat n.toNat) ∧ RowZ w' w.heap.size b n.toNat (D l s) ∧ Below w.heap.size w w'
  else e = .returned (.slice none 0 0) ∧ Below w.heap.size w w'

/-- rounds of a pass: nothing has turned yet, or what there is to be found is less -/
def PassZ (n : Int) (l : List Lk) (Z0 Z : Int → Int) (more : Bool) (i : Nat) : Prop :=
  (more = false ∧ (∀ v, 0 ≤ v → v < n → Z v = Z0 v) ∧ ∀ (j : Nat) (x : Lk), j < i → l[j]? = some x → relaxed Z x) ∨ (more = true ∧ muZ Z (nodes n) < muZ Z0 (nodes n))

def moreOf : Value → Nat
  | .bool true => 1
  | _ => 0
/-- either there is more to be looked for, or nothing grows cheaper -/
def DoneZ (more : Bool) (l : List Lk) (Z : Int → Int) : Prop := more = true ∨ ∀ x ∈ l, relaxed Z x
theorem passZ_start {n : Int} {l : List Lk} {Z : Int → Int} : PassZ n l Z Z false 0 := Or.inl ⟨rfl, fun _ _ _ => rfl, fun j _ h => absurd h (Nat.not_lt_zero j)⟩
theorem passZ_calm {n : Int} {l : List Lk} {Z0 Z : Int → Int} {more : Bool} {i : Nat} {x : Lk} (h : PassZ n l Z0 Z more i) (hx : l[i]? = some x) (hr : relaxed Z x) : PassZ n l Z0 Z more (i + 1) := by
  rcases h with ⟨h1, h2, h3⟩ | h
  · refine Or.inl ⟨h1, h2, fun j y hj hy => ?_⟩
    by_cases e : j = i
    · subst e; rw [hx] at hy; cases hy; exact hr
    · exact h3 j y (by omega) hy
  · exact Or.inr h
theorem passZ_turn {n : Int} {l : List Lk} {Z0 Z Y : Int → Int} {more : Bool} {i : Nat} (h : PassZ n l Z0 Z more i) (hm : muZ Y (nodes n) < muZ Z (nodes n)) : PassZ n l Z0 Y true (i + 1) := by
  refine Or.inr ⟨rfl, ?_⟩
  rcases h with ⟨_, h2, _⟩ | ⟨_, h⟩
  · have : muZ Z (nodes n) = muZ Z0 (nodes n) := muZ_congr fun v hv => by have := mem_nodes.1 hv; exact h2 v this.1 this.2
    omega
  · omega
theorem passZ_end {n : Int} {l : List Lk} {Z0 Z : Int → Int} {more : Bool} (h : PassZ n l Z0 Z more l.length) : DoneZ more l Z ∧ 2 * muZ Z (nodes n) + (if more = true then 1 else 0) < 2 * muZ Z0 (nodes n) + 1 := by
  rcases h with ⟨rfl, h2, h3⟩ | ⟨rfl, h⟩
  · refine ⟨Or.inr fun x hx => ?_, ?_⟩
    · obtain ⟨j, hj, rfl⟩ := List.getElem_of_mem hx
      exact h3 j _ hj (List.getElem?_eq_getElem hj)
    · have : muZ Z (nodes n) = muZ Z0 (nodes n) := muZ_congr fun v hv => by have := mem_nodes.1 hv; exact h2 v this.1 this.2
      simp; omega
  · refine ⟨Or.inl rfl, ?_⟩
    simp; omega
theorem fill_step (k i : Nat) : updZ (fun u => if u < (k : Int) then (-1 : Int) else 0) k (-1) i = if (i : Int) < ((k + 1 : Nat) : Int) then -1 else 0 := by
  unfold updZ
  by_cases e : (i : Int) = k
  · rw [if_pos e, if_pos (by omega)]
  · rw [if_neg e]
    by_cases e2 : (i : Int) < k
    · rw [if_pos (by omega)]; exact if_pos e2
    · rw [if_neg (by omega)]; exact if_neg e2

/-- a loop variable of three cells in its box -/
def BoxL (W : World) (b : Nat) (f t c : Int) : Prop := W.heap[b]? = some (.cells #[.int .i64 f, .int .i64 t, .int .i64 c] 34 (0, 0))
theorem BoxL.cells {W : World} {b : Nat} {f t c : Int} (h : BoxL W b f t c) : b < W.heap.size ∧ W.cell? ⟨b, 0, none⟩ = some (.int .i64 f) ∧ W.cell? ⟨b, 1, none⟩ = some (.int .i64 t) ∧ W.cell? ⟨b, 2, none⟩ = some (.int .i64 c) := by
  have h' : W.heap[b]? = _ := h
  refine ⟨(Array.getElem?_eq_some_iff.1 h').1, ?_, ?_, ?_⟩
  · rw [cell_of_row _ _ _ _ _ (0, 0) h']; rfl
  · rw [cell_of_row _ _ _ _ _ (0, 0) h']; rfl
  · rw [cell_of_row _ _ _ _ _ (0, 0) h']; rfl
theorem BoxL.below {w w' : World} {b : Nat} {f t c : Int} (h : BoxL w b f t c) (hb : Below w.heap.size w w') : BoxL w' b f t c := by
  have h' : w.heap[b]? = _ := h
  exact (hb.block b (Array.getElem?_eq_some_iff.1 h').1).trans h'
theorem RowZ.alloc1 {w : World} {B b N : Nat} {Z : Int → Int} (h : RowZ w B b N Z) (o : Obj) : RowZ (w.alloc o) B b N Z := h.below ((Below.refl _ w).alloc (Nat.le_refl _) o)

set_option maxRecDepth 100000 in
set_option maxHeartbeats 8000000 in
theorem rdist_any {w : World} {A : Option Addr} {m c : Nat} {l : List Lk} (hr : Rd lkc 3 w A m l) (n s : Int) (hm : m ≤ 1000) :
    Calls Try.prog 17 #[.int .i64 n, .slice A m c, .int .i64 s] w (GivesD w n l s) := by
  have HRI := Lib.hid (rright_any (c := c) hr n s hm)
  cases hg : rightG n l s with
  | false =>
    have HG := Lib.hid (fun (e : Ending) (w' : World) (h : e = .returned (.slice none 0 0) ∧ Below w.heap.size w w') => show GivesD w n l s e w' by unfold GivesD; rw [if_neg (by rw [hg]; simp)]; exact h)
    rw [hg] at HRI
    clear hg hr
    go_enter Try.func17, Try.ntmps17
    go_wp2_with (go_at_call 47; refine (HRI.out).mono ?_; rintro e w' ⟨rfl, hb⟩)
    go_ret
    exact HG.out _ _ ⟨rfl, hb⟩
  | true =>
    obtain ⟨hgk, hs0, hs1⟩ := rightG_ok.1 hg
    have HG := Lib.hid (fun (b : Nat) (w' : World) (h : RowZ w' w.heap.size b n.toNat (D l s) ∧ Below w.heap.size w w') => show GivesD w n l s (.returned (.slice (some ⟨b, 0, none⟩) n.toNat n.toNat)) w' by unfold GivesD; rw [if_pos hg]; exact ⟨b, rfl, h⟩)
    rw [hg] at HRI
    have HGK := Lib.hid hgk
    obtain ⟨N, hN, hN1⟩ : ∃ N : Nat, n = N ∧ N ≤ 64 := ⟨n.toNat, by have := hgk.n1; omega, by have := hgk.n64; omega⟩
    subst hN
    rw [Int.toNat_natCast] at HG
    have hn64 : (N : Int) ≤ 64 := by omega
    have HR := Lib.hid hr
    have HLM := Lib.hid hr.1
    obtain ⟨S, rfl, -⟩ := nat_of_lt hs0 hs1
    clear hg hr hgk
    go_enter Try.func17, Try.ntmps17
    go_wp2_with fail
    refine (HRI.out).mono ?_
    rintro e w1 ⟨rfl, hb1⟩
    obtain ⟨w2, hmk, hrow, hb2⟩ := make_row (w := w1) (B := w.heap.size) hb1.size (show N ≤ 1000 by omega)
    have HROW := Lib.hid hrow
    have HB2 := Lib.hid (hb1.trans (hb2.mono hb1.size))
    clear hrow hb2 hb1 HRI
    go_wp2_with fail
    clear hmk
    generalize hbd : w1.heap.size = bd at HROW ⊢
    clear hbd
    go_loopw [9] (fun v wr => ∃ k : Nat, k ≤ N ∧ v = .int .i64 k ∧ RowZ wr w.heap.size bd N (fun u => if u < k then -1 else 0) ∧ Below w.heap.size w wr) (fun v _ => N - (intOf v).toNat)
    case atStart => exact ⟨0, Nat.zero_le _, rfl, (HROW.out).congr (fun i _ => by rw [if_neg (by omega)]), HB2.out⟩
    case round =>
      obtain ⟨k, hk, rfl, hrow, hbr⟩ := hrel
      have HROW2 := Lib.hid hrow
      have HBR := Lib.hid hbr
      have hlo := hrow.lo
      clear hrow hbr
      have hk0 : (0 : Int) ≤ k := by omega
      by_cases hlt : k < N
      · have hk1 : (k : Int) < N := by omega
        have hc := HROW2.out.cell hlt
        have hf := HROW2.out.fr k
        have HS := Lib.hid (HROW2.out.set k (-1))
        have HBS := Lib.hid (HBR.out.setCell (p := ⟨bd, k, none⟩) hlo (.int .i64 (-1)))
        go_wp2_with fail
        go_roundw
        case rel =>
          exact ⟨k + 1, by omega, by go_num, (HS.out).congr (fun i _ => fill_step k i), HBS.out⟩
        case measure => simp [intOf]; omega
      · obtain rfl : k = N := by omega
        have hge : ¬ (k : Int) < k := by omega
        have HROW3 := Lib.hid ((HROW2.out).congr (Y := fun _ => -1) (fun i hi => if_pos (by omega)))
        have hS0 : (0 : Int) ≤ S := by omega
        have hS1 : (S : Int) < k := by omega
        have hc := HROW3.out.cell (i := S) (by omega)
        have hf := HROW3.out.fr S
        have HS := Lib.hid (HROW3.out.set S 0)
        have HBS := Lib.hid (HBR.out.setCell (p := ⟨bd, S, none⟩) hlo (.int .i64 0))
        have HI := Lib.hid (InvZ.init (n := k) (l := l) (s := S) ⟨hs0, hs1⟩)
        clear hk hlt hk0 HROW2 HROW HROW3
        go_wp2_with fail
        clear hc hf
        obtain ⟨N, rfl⟩ : ∃ N : Nat, N = k := ⟨_, rfl⟩
        go_loopw [10] (fun mo wx => ∃ (Z : Int → Int) (more : Bool), mo = .bool more ∧ RowZ wx w.heap.size bd N Z ∧ InvZ N l S Z ∧ Below w.heap.size w wx ∧ DoneZ more l Z) (fun mo wx => 2 * muZ (zOf wx bd) (nodes N) + moreOf mo)
        case atStart => exact ⟨_, true, rfl, HS.out, HI.out, HBS.out, Or.inl rfl⟩
        case round =>
          obtain ⟨Z, more, rfl, hrz, hiz, hb1, hdz⟩ := hrel
          have HRZ := Lib.hid hrz
          have HIZ := Lib.hid hiz
          have HB1 := Lib.hid hb1
          have HDZ := Lib.hid hdz
          have HMU := Lib.hid (muZ_of hrz (n := N) rfl)
          clear hrz hiz hb1 hdz HS HI HBS
          cases more with
          | false =>
            have HFIN := Lib.hid (show RowZ wr w.heap.size bd N (D l S) from HRZ.out.congr (fun i hi => HIZ.out.done HGK.out (HDZ.out.resolve_left (by decide)) (by omega) (by omega)))
            go_wp2_with fail
            go_ret
            exact HG.out _ _ ⟨HFIN.out, HB1.out⟩
          | true =>
            go_wp2_with fail
            go_loopw [10, 11] (fun mo v wx => ∃ (Y : Int → Int) (more : Bool) (i : Nat), i ≤ m ∧ mo = .bool more ∧ v = .int .i64 i ∧ RowZ wx w.heap.size bd N Y ∧ InvZ N l S Y ∧ PassZ N l Z Y more i ∧ Below w.heap.size w wx) (fun _ v _ => m - (intOf v).toNat)
            case atStart => exact ⟨Z, false, 0, Nat.zero_le _, rfl, rfl, HRZ.out, HIZ.out, passZ_start, HB1.out⟩
            case round =>
              obtain ⟨Y, more, i, hi, rfl, rfl, hry, hiy, hpy, hb2⟩ := hrel
              have HRY := Lib.hid hry
              have HIY := Lib.hid hiy
              have HPY := Lib.hid hpy
              have HB2 := Lib.hid hb2
              clear hry hiy hpy hb2
              have hi0 : (0 : Int) ≤ i := by omega
              by_cases him : i < m
              · have hi1 : (i : Int) < m := by omega
                obtain ⟨⟨xf, xt, xc⟩, b, off, hx, rfl, hcell⟩ := (HR.out.below HB2.out).at_ him
                have c0 := hcell 0 _ rfl
                have c1 := hcell 1 _ rfl
                have c2 := hcell 2 _ rfl
                rw [Nat.add_zero] at c0
                simp only at c0 c1 c2
                have hok := HGK.out.ok _ (List.mem_of_getElem? hx)
                simp only at hok
                obtain ⟨f, rfl, hf1⟩ := nat_of_lt hok.1 hok.2.1
                obtain ⟨t, rfl, ht1⟩ := nat_of_lt hok.2.2.1 hok.2.2.2.1
                have hc1 := hok.2.2.2.2.2
                have HX := Lib.hid hx
                clear hx hcell hok
                go_upto_region 17 with fail
                have HBX := Lib.hid (show BoxL (wr.alloc (.cells #[.int .i64 (f : Int), .int .i64 (t : Int), .int .i64 xc] 34)) wr.heap.size f t xc from heap_alloc_new _ _)
                have HBA := Lib.hid (HB2.out.alloc HB2.out.size (.cells #[.int .i64 (f : Int), .int .i64 (t : Int), .int .i64 xc] 34))
                have HRA := Lib.hid (HRY.out.alloc1 (.cells #[.int .i64 (f : Int), .int .i64 (t : Int), .int .i64 xc] 34))
                generalize hA : wr.heap.size = bl at HBX ⊢
                clear hA
                generalize World.alloc _ _ = wa at HBX HBA HRA ⊢
                clear HRY HB2 c0 c1 c2
                obtain ⟨q, q0, q1, q2⟩ := HBX.out.cells
                have hcf := HRA.out.cell (i := f) (by omega)
                have hct := HRA.out.cell (i := t) (by omega)
                have hff := HRA.out.fr t
                have hbf := HIY.out.le hn64 (v := f) (by omega) hf1
                have hbt := HIY.out.le hn64 (v := t) (by omega) ht1
                have hf0 : (0 : Int) ≤ f := by omega
                have ht0 : (0 : Int) ≤ t := by omega
                have hlo := HRA.out.lo
                have HST := Lib.hid (fun h0 h1 => HIY.out.step HGK.out (List.mem_of_getElem? HX.out) h0 h1)
                simp only at HST
                have HCA := Lib.hid (fun h => passZ_calm HPY.out HX.out h)
                have HTU := Lib.hid (fun Y' h => passZ_turn (Y := Y') HPY.out h)
                have hrl : relaxed Y (⟨(f : Int), (t : Int), xc⟩ : Lk) ↔ (0 ≤ Y f → 0 ≤ Y t ∧ Y t ≤ Y f + xc) := Iff.rfl
                clear HPY HX
                obtain ⟨zf, hzf⟩ : ∃ z, z = Y f := ⟨_, rfl⟩
                obtain ⟨zt, hzt⟩ : ∃ z, z = Y t := ⟨_, rfl⟩
                rw [← hzf] at hcf hbf hrl HST
                rw [← hzt] at hct hbt hrl HST
                have HZF := Lib.hid hzf
                clear hzf hzt
                have hw : IntKind.i64.wrap (zf + xc) = zf + xc := IntWalk.i64_in _ (by omega)
                by_cases h0 : 0 ≤ zf
                · have d0 : decide (zf ≥ 0) = true := decide_eq_true h0
                  by_cases h1 : zt < 0 ∨ zf + xc < zt
                  · have HS1 := Lib.hid (HST.out h0 h1)
                    have HT1 := Lib.hid (HTU.out _ HS1.out.2)
                    clear HST HTU hrl HCA
                    have HN := Lib.hid (fun (W : World) (hb : Below wa.heap.size wa W) => (⟨HBX.out.below hb, HRA.out.below hb, HBA.out.trans (hb.mono HBA.out.size)⟩ : BoxL W bl f t xc ∧ RowZ W w.heap.size bd N Y ∧ Below w.heap.size w W))
                    by_cases h2 : zt < 0
                    · have d1 : decide (zt < 0) = true := decide_eq_true h2
                      go_quiet (fail)
                      have hw0 := below_dN (w := wa) nq
                      generalize wa.drewN nq = wb at hw0 ⊢
                      obtain ⟨hx3, hr3, hb3⟩ := HN.out wb hw0
                      have HR3 := Lib.hid hr3
                      have HB3 := Lib.hid hb3
                      clear hw0 hr3 hb3 q q0 q1 q2 hcf hct hff HN
                      obtain ⟨q, q0, q1, q2⟩ := hx3.cells
                      have hcf := HR3.out.cell (i := f) (by omega)
                      rw [← HZF.out] at hcf
                      have hct := HR3.out.cell (i := t) (by omega)
                      have hff := HR3.out.fr t
                      clear hx3
                      go_upto_region 18 with fail
                      go_still_tail 12, (by kernel_rfl)
                      go_wp2_with fail
                      exact ⟨⟨_, true, i + 1, by omega, rfl, by go_num, (HR3.out.set t (zf + xc)).below (below_dN 1), HS1.out.1, HT1.out, (HB3.out.setCell (p := ⟨bd, t, none⟩) hlo (.int .i64 (zf + xc))).trans ((below_dN 1).mono (HB3.out.setCell (p := ⟨bd, t, none⟩) hlo (.int .i64 (zf + xc))).size)⟩, by simp [intOf]; omega⟩
                    · have d1 : decide (zt < 0) = false := decide_eq_false h2
                      have d2 : decide (zf + xc < zt) = true := decide_eq_true (by omega)
                      go_quiet (fail)
                      have hw0 := below_dN (w := wa) nq
                      generalize wa.drewN nq = wb at hw0 ⊢
                      obtain ⟨hx3, hr3, hb3⟩ := HN.out wb hw0
                      have HR3 := Lib.hid hr3
                      have HB3 := Lib.hid hb3
                      clear hw0 hr3 hb3 q q0 q1 q2 hcf hct hff HN
                      obtain ⟨q, q0, q1, q2⟩ := hx3.cells
                      have hcf := HR3.out.cell (i := f) (by omega)
                      rw [← HZF.out] at hcf
                      have hct := HR3.out.cell (i := t) (by omega)
                      have hff := HR3.out.fr t
                      clear hx3
                      go_upto_region 18 with fail
                      go_still_tail 12, (by kernel_rfl)
                      go_wp2_with fail
                      exact ⟨⟨_, true, i + 1, by omega, rfl, by go_num, (HR3.out.set t (zf + xc)).below (below_dN 1), HS1.out.1, HT1.out, (HB3.out.setCell (p := ⟨bd, t, none⟩) hlo (.int .i64 (zf + xc))).trans ((below_dN 1).mono (HB3.out.setCell (p := ⟨bd, t, none⟩) hlo (.int .i64 (zf + xc))).size)⟩, by simp [intOf]; omega⟩
                  · have d1 : decide (zt < 0) = false := decide_eq_false (fun h => h1 (.inl h))
                    have d2 : decide (zf + xc < zt) = false := decide_eq_false (fun h => h1 (.inr h))
                    have HC1 := Lib.hid (HCA.out (hrl.2 fun h => by omega))
                    clear HST HTU hrl
                    go_quiet (fail)
                    go_wp2_with fail
                    exact ⟨⟨Y, more, i + 1, by omega, rfl, by go_num, HRA.out.below (below_dN _), HIY.out, HC1.out, HBA.out.trans ((below_dN _).mono HBA.out.size)⟩, by simp [intOf]; omega⟩
                · have d0 : decide (zf ≥ 0) = false := decide_eq_false h0
                  have HC1 := Lib.hid (HCA.out (hrl.2 fun h => absurd h h0))
                  clear HST HTU hrl
                  go_quiet (fail)
                  go_wp2_with fail
                  exact ⟨⟨Y, more, i + 1, by omega, rfl, by go_num, HRA.out.below (below_dN _), HIY.out, HC1.out, HBA.out.trans ((below_dN _).mono HBA.out.size)⟩, by simp [intOf]; omega⟩
              · have him2 : ¬ (i : Int) < m := by omega
                have HPE := Lib.hid (passZ_end (n := N) (l := l) (Z0 := Z) (Z := Y) (more := more) (by rw [HLM.out, show m = i by omega]; exact HPY.out))
                have HMU2 := Lib.hid (muZ_of HRY.out (n := N) rfl)
                clear HPY
                go_wp2_with fail
                go_roundw
                case rel => exact ⟨Y, more, rfl, HRY.out, HIY.out, HB2.out, HPE.out.1⟩
                case measure =>
                  rw [HMU.out, HMU2.out]
                  have := HPE.out.2
                  cases more
                  · simpa [moreOf] using this
                  · simpa [moreOf] using this
end Go.Proofs.Ytmdcfiejkbhgpaa
