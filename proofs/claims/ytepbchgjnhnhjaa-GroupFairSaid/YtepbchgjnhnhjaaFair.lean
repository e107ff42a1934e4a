/-
  The law GroupFair is true, whatever the ways and the number to begin with.
-/
import Derived.Test.YtepbchgjnhnhjaaNormLaw
namespace Go.Proofs.Ytepbchgjnhnhjaa
open Go.RowKit
namespace Grp

/-- how often the way of place q was picked by j numbers on end -/
def cnt (l : List W) (f : Int) (j q : Nat) : Nat := (List.range j).countP fun (i : Nat) => pick l (f + (i : Int)) == (q : Int)

theorem cnt_succ (l : List W) (f : Int) (j q : Nat) : cnt l f (j + 1) q = cnt l f j q + if pick l (f + (j : Int)) == (q : Int) then 1 else 0 := by
  unfold cnt
  rw [List.range_succ, List.countP_append]
  simp [List.countP_cons]

theorem count_index (m : List Nat) (p : Nat → Bool) : (List.range m.length).countP (fun i => p (m.getD i 0)) = m.countP p := by
  induction m with
  | nil => rfl
  | cons x m ih =>
    rw [List.length_cons, List.range_succ_eq_map, List.countP_cons, List.countP_map, List.countP_cons, ← ih]
    rfl

theorem countP_congr' {l : List Nat} {p q : Nat → Bool} (h : ∀ x ∈ l, p x = q x) : l.countP p = l.countP q := by
  induction l with
  | nil => rfl
  | cons x l ih => rw [List.countP_cons, List.countP_cons, ih fun y hy => h y (List.mem_cons_of_mem _ hy), h x List.mem_cons_self]

/-- counting round a row from wherever -/
theorem count_round (m : List Nat) (s : Nat) (hs : s < m.length) (p : Nat → Bool) :
    (List.range m.length).countP (fun i => p (m.getD ((s + i) % m.length) 0)) = m.countP p := by
  obtain ⟨r, hr⟩ : ∃ r, m.length = r + s := ⟨m.length - s, by omega⟩
  have h1 : (List.range m.length) = List.range r ++ (List.range s).map (r + ·) := by rw [hr, List.range_add]
  have h2 : (List.range r).countP (fun i => p (m.getD ((s + i) % m.length) 0)) = (m.drop s).countP p := by
    have hl : (m.drop s).length = r := by rw [List.length_drop]; omega
    rw [← count_index (m.drop s) p, hl]
    refine countP_congr' fun i hi => ?_
    have hi := List.mem_range.1 hi
    rw [Nat.mod_eq_of_lt (by omega)]
    congr 1
    rw [List.getD_eq_getElem?_getD, List.getD_eq_getElem?_getD, List.getElem?_drop]
  have h3 : (List.range s).countP (fun i => p (m.getD ((s + (r + i)) % m.length) 0)) = (m.take s).countP p := by
    have hl : (m.take s).length = s := by rw [List.length_take]; omega
    rw [← count_index (m.take s) p, hl]
    refine countP_congr' fun i hi => ?_
    have hi := List.mem_range.1 hi
    have e : (s + (r + i)) % m.length = i := by
      rw [show s + (r + i) = i + m.length by omega, Nat.add_mod_right, Nat.mod_eq_of_lt (by omega)]
    rw [e]
    congr 1
    rw [List.getD_eq_getElem?_getD, List.getD_eq_getElem?_getD, List.getElem?_take, if_pos hi]
  rw [h1, List.countP_append, h2, List.countP_map]
  have h4 : (fun i => p (m.getD ((s + i) % m.length) 0)) ∘ (r + ·) = fun i => p (m.getD ((s + (r + i)) % m.length) 0) := rfl
  rw [h4, h3, Nat.add_comm, ← List.countP_append, List.take_append_drop]

theorem rows_count {l : List W} (k q : Nat) : (rows l k).countP (fun i => i == q) = if q < k then (l.getD q (0, 0)).2.toNat else 0 := by
  induction k with
  | zero => simp [rows]
  | succ k ih =>
    rw [rows, List.countP_append, ih, List.countP_replicate]
    by_cases h1 : q < k
    · have : (k == q) = false := by simp; omega
      rw [this, if_pos h1, if_pos (show q < k + 1 by omega)]
      simp
    · by_cases h2 : q = k
      · subst h2
        simp
      · have : (k == q) = false := by simp; omega
        rw [this, if_neg h1, if_neg (show ¬ q < k + 1 by omega)]
        simp

theorem cnt_all {l : List W} (h : check l = 0) (f : Int) (q : Nat) (hq : q < l.length) : (cnt l f (sumW l).toNat q : Int) = (l.getD q (0, 0)).2 := by
  have hT := sumW_all_bd h
  have hlen := rows_length h l.length (Nat.le_refl _)
  rw [List.take_length] at hlen
  obtain ⟨s, hs⟩ : ∃ s : Nat, f % sumW l = s := ⟨(f % sumW l).toNat, by have := Int.emod_nonneg f (b := sumW l) (by omega); omega⟩
  have hs1 := Int.emod_lt_of_pos f (b := sumW l) (by omega)
  have key : cnt l f (sumW l).toNat q = (rows l l.length).countP fun i => i == q := by
    rw [← count_round (rows l l.length) s (by omega)]
    unfold cnt
    have e : (sumW l).toNat = (rows l l.length).length := by omega
    rw [e]
    refine countP_congr' fun i hi => ?_
    have hi := List.mem_range.1 hi
    obtain ⟨k, hk, h1, h2, _, _⟩ := pick_at h (f + i)
    have e2 : ((f + (i : Int)) % sumW l).toNat = (s + i) % (rows l l.length).length := by
      rw [Int.add_emod, hs]
      have : ((s : Int) + (i : Int) % sumW l) % sumW l = (((s + i) % (rows l l.length).length : Nat) : Int) := by
        rw [← hlen, Int.add_emod_emod]
        rfl
      omega
    rw [e2] at h2
    rw [h1, List.getD_eq_getElem?_getD, h2]
    simp only [Option.getD_some]
    rw [Bool.eq_iff_iff, beq_iff_eq, beq_iff_eq]
    omega
  rw [key, rows_count, if_pos hq]
  have := wrong_of h (x := l.getD q (0, 0)) (by
    rw [getD_of (List.getElem?_eq_getElem hq)]
    exact List.getElem_mem _)
  omega

theorem share_own {l : List W} (h : l.Pairwise fun x y => x.1 ≠ y.1) {x : W} (hx : x ∈ l) : share l x.1 = x.2 := by
  induction l with
  | nil => cases hx
  | cons y l ih =>
    rw [List.pairwise_cons] at h
    rw [share_cons]
    rcases List.mem_cons.1 hx with rfl | hm
    · simp
    · have : (y.1 == x.1) = false := by simpa using h.1 x hm
      rw [this, if_neg (by simp)]
      exact ih h.2 hm

theorem cnt_le (l : List W) (f : Int) (j q : Nat) : cnt l f j q ≤ j := by
  have := List.countP_le_length (p := fun (i : Nat) => pick l (f + (i : Int)) == (q : Int)) (l := List.range j)
  rw [List.length_range] at this
  exact this
end Grp

/-- the counts of all ways -/
def tally (l : List (Int × Int)) (f : Int) (j n : Nat) : List Value := (List.range n).map fun q => .int .i64 ((Grp.cnt l f j q : Nat) : Int)

theorem tally_at {l : List (Int × Int)} {f : Int} {j n q : Nat} (hq : q < n) : (tally l f j n)[q]? = some (.int .i64 ((Grp.cnt l f j q : Nat) : Int)) := by
  rw [tally, List.getElem?_map, List.getElem?_range hq]
  rfl
theorem tally_succ {l : List (Int × Int)} {f : Int} {j n k : Nat} (h : Grp.pick l (f + (j : Int)) = (k : Int)) : tally l f (j + 1) n = (tally l f j n).set k (.int .i64 ((Grp.cnt l f j k : Nat) + 1)) := by
  apply List.ext_getElem?
  intro q
  by_cases hq : q < n
  · rw [tally_at hq, List.getElem?_set, Grp.cnt_succ, h]
    by_cases hkq : k = q
    · subst hkq
      have hl : k < (tally l f j n).length := by rw [tally, List.length_map, List.length_range]; exact hq
      rw [if_pos rfl, if_pos hl]
      simp
    · rw [if_neg hkq, tally_at hq]
      have : ((k : Int) == (q : Int)) = false := by simp; omega
      rw [this]
      simp
  · rw [List.getElem?_eq_none (by simp [tally]; omega), List.getElem?_eq_none (by simp [tally]; omega)]

set_option maxHeartbeats 4000000 in
theorem fair_law (A : Option Addr) (n c : Nat) (l : List (Int × Int)) (f : Int) (w : World) (hg : Given w A n c l) (hf : 0 ≤ f ∧ f ≤ 65535) :
    Calls Try.prog 4 #[.slice A n c, .int .u16 f] w fun e w' => e = .returned (.bool true) ∧ Below w.heap.size w w' := by
  have haw := awake_any w
  have HA := Lib.hid haw
  clear haw
  obtain ⟨hf0, hf1⟩ := hf
  by_cases h16 : (16 : Int) < (n : Int)
  · clear hg
    go_enter Try.func4, Try.ntmps4
    go_wp2_with (go_at_call 7; refine (HA.out).mono ?_; rintro e w1 ⟨rfl, hb1⟩)
    go_ret
    exact ⟨rfl, hb1⟩
  have hc := hg.cap
  have e1 : From w 8 #[.slice A n c] (.int .i64 (Grp.check l)) := from_ fun V hV => check_any A n c l V (hg.ways.below hV) (by omega) hc
  have E1 := Lib.hid e1
  clear e1
  by_cases h0 : Grp.check l = 0
  · rw [h0] at E1
    obtain ⟨i0, hi, hz0, hz1, hz2⟩ := info_parts Try.info_int
    have hT := Grp.sumW_all_bd h0
    have f1 : ∀ W, Below w.heap.size w W → Calls Try.prog 10 #[.slice A n c] W fun e W' => e = .returned (.int .i64 (Grp.sumW l)) ∧ Below W.heap.size W W' := fun V hV => by
      have := total_any A n c l V (hg.ways.below hV) (by omega)
      rwa [Grp.total_eq h0] at this
    have f2 : ∀ (h : Int) (W : World), 0 ≤ h → h ≤ 4294967295 → Below w.heap.size w W → Calls Try.prog 12 #[.slice A n c, .int .u32 h] W fun e W' => e = .returned (.int .i64 (Grp.pick l h)) ∧ Below W.heap.size W W' := fun h W h1 h2 hW =>
      pick_any A n c l h W (hg.ways.below hW) (by omega) hc ⟨h1, h2⟩
    have f3 : ∀ (h : Int) W, Below w.heap.size w W → Calls Try.prog 14 #[.slice A n c, .int .i64 h] W fun e W' => e = .returned (.int .i64 (Grp.share l h)) ∧ Below W.heap.size W W' := fun h W hW =>
      share_any A n c l h W (hg.ways.below hW) (by omega)
    have HI := Lib.hid hi; have HZ0 := Lib.hid hz0; have HZ1 := Lib.hid hz1; have HZ2 := Lib.hid hz2
    have F1 := Lib.hid f1; have F2 := Lib.hid f2; have F3 := Lib.hid f3; have HG := Lib.hid hg; have H0 := Lib.hid h0
    clear f1 f2 f3 hg h0 hi hz0 hz1 hz2
    obtain ⟨T, hTT⟩ : ∃ T : Nat, Grp.sumW l = T := ⟨(Grp.sumW l).toNat, by omega⟩
    have hn1 : n ≤ 16 := by omega
    rw [hTT] at F1 hT
    have HT := Lib.hid hTT
    clear hTT
    obtain ⟨hT0, hT1⟩ := hT
    go_enter Try.func4, Try.ntmps4
    go_wp2_with fail
    refine (HA.out).mono ?_
    rintro e w1 ⟨rfl, hb1⟩
    go_wp2_with fail
    refine (E1.out _ hb1).mono ?_
    rintro e w2 ⟨rfl, hb2⟩
    have hz2 := hb2.size
    go_wp2_with (at_make; (refine wpList_make_full _ rfl _ _ 35 rfl w2.heap.size 3 i0 (.int .i64 0) 1 Try.underlying35 HI.out HZ0.out HZ1.out .i64 .i64 (n : Int) (n : Int) n rfl rfl rfl rfl (by rw [HZ2.out]; omega) (by simp [maxLen]; omega) (Nat.le_refl _) ?_); intro w3 hown3 hgr3)
    have hb3 : Below w2.heap.size w2 w3 := ⟨hgr3.os, hgr3.tape, hgr3.output, hgr3.size, fun k hk => hgr3.block k hk (by simp)⟩
    have hz3 := hb3.size
    have hown30 : w3.ownsRow w2.heap.size 3 1 (.slice (some ⟨w2.heap.size, 0, none⟩) n n) n (tally l f 0 n) := by
      have e : (madeCells (Value.int .i64 0).cells (n * 1)).toList = tally l f 0 n := by
        rw [show (Value.int .i64 0).cells = #[Value.int .i64 0] from rfl, toList_madeCells_one, Nat.mul_one]
        apply List.ext_getElem?
        intro q
        by_cases hq : q < n
        · rw [tally_at hq, List.getElem?_replicate, if_pos hq]
          simp [Grp.cnt]
        · rw [List.getElem?_eq_none (by simp; omega), List.getElem?_eq_none (by simp [tally]; omega)]
      rw [e] at hown3
      exact hown3
    generalize hgb : w2.heap.size = g at *
    have HO3 := Lib.hid hown30
    clear hown3 hown30 hgr3
    go_loopw [7] (fun v W => ∃ j : Nat, j ≤ T ∧ v = .int .i64 j ∧ W.ownsRow g 3 1 (.slice (some ⟨g, 0, none⟩) n n) n (tally l f j n) ∧ Below g w2 W) (fun v _ => T - (intOf v).toNat)
    case atStart => exact ⟨0, by omega, rfl, HO3.out, hb3⟩
    case round =>
      obtain ⟨j, hj, rfl, hown, hbj⟩ := hrel
      have HOW := Lib.hid hown
      clear hown
      have hwr : Below w.heap.size w wr := hb2.trans (hbj.mono hz2)
      by_cases hjT : j < T
      · obtain ⟨k, hkl, hpk, -, -, -⟩ := Grp.pick_at H0.out (f + (j : Int))
        have hkn : k < n := by have := HG.out.ways.1; omega
        have hjb : f + (j : Int) ≤ 69615 := by omega
        have P : Hid (∀ W, Below w.heap.size w W → Calls Try.prog 12 #[.slice A n c, .int .u32 (f + (j : Int))] W fun e W' => e = .returned (.int .i64 (k : Int)) ∧ Below W.heap.size W W') := fun W hW => by
          have := F2.out (f + (j : Int)) W (by omega) (by omega) hW
          rwa [hpk] at this
        have HPK := Lib.hid hpk
        clear hpk
        go_wp2_with (go_at_call 10; refine (F1.out _ hwr).mono ?_; rintro e w4 ⟨rfl, hb4⟩)
        have hw4 := hwr.trans (hb4.mono hwr.size)
        refine (P.out _ hw4).mono ?_
        rintro e w5 ⟨rfl, hb5⟩
        have hb45 : Below wr.heap.size wr w5 := hb4.trans (hb5.mono hb4.size)
        have hown5 := own_below HOW.out hb45
        have hcl := Grp.cnt_le l f j k
        have hcell : w5.cell? ⟨g, k, none⟩ = some (.int .i64 ((Grp.cnt l f j k : Nat) : Int)) := by rw [hown5.cellAt _ (by omega)]; exact tally_at hkn
        have hfz : w5.frozen? ⟨g, k, none⟩ = false := hown5.frozenAt _
        have HO5 := Lib.hid hown5
        have HTS := Lib.hid (tally_succ (n := n) HPK.out)
        clear hown5
        generalize Grp.cnt l f j k = q at hcl hcell HTS
        have hkn' : (k : Int) < (n : Int) := by omega
        go_wp2
        go_roundw
        case rel =>
          have h1 := HO5.out.stored k (.int .i64 ((q : Int) + 1))
          refine ⟨j + 1, by omega, by go_num, ?_, ?_⟩
          · rw [HTS.out]
            exact h1.1
          · exact (hbj.trans (hb45.mono (show g ≤ wr.heap.size by have := hbj.size; omega))).setCell (Nat.le_refl _) _
        case measure => simp [intOf]; omega
      · have hjT' : j = T := by omega
        subst hjT'
        have hgr : g ≤ wr.heap.size := by have := hbj.size; omega
        go_wp2_with (go_at_call 10; refine (F1.out _ hwr).mono ?_; rintro e w4 ⟨rfl, hb4⟩)
        have HO4 := Lib.hid (own_below HOW.out hb4)
        have hbj4 : Below g w2 w4 := hbj.trans (hb4.mono hgr)
        clear hb4 hbj hgr hwr
        go_loopw [9] (fun v W => ∃ k : Nat, k ≤ n ∧ v = .int .i64 k ∧ W.ownsRow g 3 1 (.slice (some ⟨g, 0, none⟩) n n) n (tally l f j n) ∧ Below g w2 W) (fun v _ => n - (intOf v).toNat)
        case atStart => exact ⟨0, by omega, rfl, HO4.out, hbj4⟩
        case round =>
          obtain ⟨k, hk, rfl, hown, hbk⟩ := hrel
          have HOX := Lib.hid hown
          clear hown
          have hwk : Below w.heap.size w wr := hb2.trans (hbk.mono hz2)
          by_cases hlt : k < n
          · obtain ⟨x, b, off, hx, hA, hc0, hc1⟩ := (HG.out.ways.below hwk).at_ hlt
            have hmany : wr.cell? ⟨g, k, none⟩ = some (.int .i64 x.2) := by
              rw [HOX.out.cellAt _ (by omega), tally_at hlt]
              have h1 := Grp.cnt_all H0.out f k (by have := HG.out.ways.1; omega)
              rw [HT.out, Int.toNat_natCast, getD_of hx] at h1
              rw [h1]
            have hsh : ∀ W, Below wr.heap.size wr W → Calls Try.prog 14 #[.slice A n c, .int .i64 x.1] W fun e W' => e = .returned (.int .i64 x.2) ∧ Below wr.heap.size wr W' ∧
                W'.cell? ⟨g, k, none⟩ = some (.int .i64 x.2) ∧ W'.cell? ⟨b, off + k * 2, none⟩ = some (.int .i64 x.1) ∧ W'.cell? ⟨b, off + k * 2 + 1, none⟩ = some (.int .i64 x.2) := fun W hW => by
              have h1 := F3.out x.1 W (hwk.trans (hW.mono hwk.size))
              rw [Grp.share_own (Grp.hops_of H0.out) (List.mem_of_getElem? hx)] at h1
              refine h1.mono fun _ _ ⟨he, hb⟩ => ?_
              have hb' := hW.trans (hb.mono hW.size)
              exact ⟨he, hb', (hb'.cell (World.block_lt_of_cell? wr _ hmany)).trans hmany, (hb'.cell (World.block_lt_of_cell? wr _ hc0)).trans hc0, (hb'.cell (World.block_lt_of_cell? wr _ hc1)).trans hc1⟩
            have SH := Lib.hid hsh
            clear hsh hx
            subst hA
            have hk0 : (0 : Int) ≤ (k : Int) := by omega
            have hkn : (k : Int) < (n : Int) := by omega
            go_wp2_with fail
            go_region_held3 (fun w' => Below wr.heap.size wr w' ∧ w'.cell? ⟨g, k, none⟩ = some (.int .i64 x.2) ∧ w'.cell? ⟨b, off + k * 2, none⟩ = some (.int .i64 x.1) ∧ w'.cell? ⟨b, off + k * 2 + 1, none⟩ = some (.int .i64 x.2))
              (first | assumption | exact ⟨by assumption, by assumption, by assumption, by assumption⟩ | exact ⟨(Below.refl _ _).drew, by simpa using hmany, by simpa using hc0, by simpa using hc1⟩)
              (first | (go_at_call 14; (refine (SH.out _ ?_).mono ?_); (exact And.left (by assumption)); rintro e w5 ⟨rfl, hb5, hd5, he5, hf5⟩))
            go_wp2
            go_roundw
            case rel => exact ⟨k + 1, by omega, by go_num, own_below HOX.out hb5, hbk.trans (hb5.mono (by have := hbk.size; omega))⟩
            case measure => simp [intOf]; omega
          · have hkn : n = k := by omega
            subst hkn
            go_wp2
            go_ret
            exact ⟨rfl, hwk⟩
  · have hne : (Grp.check l != 0) = true := by simpa using h0
    clear h0 hg
    generalize Grp.check l = ck at E1 hne
    go_enter Try.func4, Try.ntmps4
    go_wp2_with fail
    refine (HA.out).mono ?_
    rintro e w1 ⟨rfl, hb1⟩
    go_wp2_with fail
    refine (E1.out _ hb1).mono ?_
    rintro e w2 ⟨rfl, hb2⟩
    go_wp2
    go_ret
    exact ⟨rfl, hb2⟩

end Go.Proofs.Ytepbchgjnhnhjaa
