/-
  A script of interfaces that come, go, and are set: the program's and the reference's, side by side.
-/
import Derived.Test.YtheggpklgeobkaaDoorShowB
import Derived.Test.YtheggpklgeobkaaDoorChg
import Derived.Test.YtheggpklgeobkaaDoorCls
namespace Go.Proofs.YtheggpklgeobkaaDoor
open Go.RowKit

/-- Show -/
theorem show_any {w : World} {p B : Nat} {g : PG} (hp : PtsAt w p B g) (hok : OkS (abs g)) (ht : Tab w) :
    Calls Tryd.prog 15 #[.pointer (some ⟨p, 0, none⟩)] w fun e w' => e = .returned (.string (txt (showP (lst (abs g))))) ∧ Below w.heap.size w w' :=
  callsIn_wide.1 (show_in (some ⟨p, 0, none⟩) w.heap.size (lst (abs g)) w ht (fun w' hb hlt hc => each_stops (by decide) (okE_lift hok) hp hb hlt hc) (Nat.le_refl _))
theorem show_nil (w : World) (ht : Tab w) :
    Calls Tryd.prog 15 #[.pointer none] w fun e w' => e = .returned (.string (txt [])) ∧ Below w.heap.size w w' :=
  callsIn_wide.1 (show_in none w.heap.size [] w ht (fun _ _ hlt hc => each_nil_stops hlt hc) (Nat.le_refl _))

/-- a step of a script -/
structure Sp where
  kind : Int
  num : Int
  mtu : Int
instance : Inhabited Sp := ⟨⟨0, 0, 0⟩⟩
def spc (s : Sp) : List Value := [.int .i64 s.kind, .int .i64 s.num, .int .i64 s.mtu]
theorem spc_len (s : Sp) : (spc s).length = 3 := rfl

theorem PtsAt.mono {w : World} {p B B' : Nat} {g : PG} (h : PtsAt w p B g) (hB : B' ≤ B) : PtsAt w p B' g := ⟨h.row, Nat.le_trans hB h.lo, fun i hi x hx => ⟨(h.ent i hi x hx).1, Nat.le_trans hB (h.ent i hi x hx).2⟩⟩
theorem own_kind {w : World} {p B : Nat} {g : PG} (h : PtsAt w p B g) {k : Nat} (hk : OwnP p g k) : ∃ cs t, w.heap[k]? = some (.cells cs t (0, 0)) ∧ (t = 46 ∨ t = 42) := by
  rcases hk with rfl | ⟨i, hi, x, hx, rfl⟩
  · exact ⟨_, _, h.row, Or.inl rfl⟩
  · exact ⟨_, _, (h.ent i hi x hx).1, Or.inr rfl⟩
theorem rowAt_kept {w w' : World} {p B B' : Nat} {g : PG} {v : Value} {l : List Pe} (h : RowAt w B' v l) (hp : PtsAt w p B g) (hk : Kept w w' p g) : RowAt w' B' v l := by
  refine ⟨h.1, ?_⟩
  rcases h.2 with h0 | ⟨b, cap, cur, hv, hb, hg, r⟩
  · exact .inl h0
  · refine .inr ⟨b, cap, cur, hv, hb, ?_, r⟩
    rw [hk.blk b (Array.getElem?_eq_some_iff.1 hg).1 (fun ho => ?_)]
    · exact hg
    · obtain ⟨cs, t, hc, ht⟩ := own_kind hp ho
      rw [hg] at hc
      simp at hc
      rcases ht with rfl | rfl
      · exact absurd hc.2 (by decide)
      · exact absurd hc.2 (by decide)
/-- a step's copy in its box -/
def BoxS (w : World) (b : Nat) (s : Sp) : Prop := w.heap[b]? = some (.cells #[.int .i64 s.kind, .int .i64 s.num, .int .i64 s.mtu] 48 (0, 0))
theorem boxS_kept {w w' : World} {p B b : Nat} {g : PG} {s : Sp} (h : BoxS w b s) (hp : PtsAt w p B g) (hk : Kept w w' p g) : BoxS w' b s := by
  have h' : w.heap[b]? = _ := h
  unfold BoxS
  rw [hk.blk b (Array.getElem?_eq_some_iff.1 h').1 (fun ho => ?_)]
  · exact h'
  · obtain ⟨cs, t, hc, ht⟩ := own_kind hp ho
    rw [h'] at hc
    simp at hc
    rcases ht with rfl | rfl
    · exact absurd hc.2 (by decide)
    · exact absurd hc.2 (by decide)
theorem boxS_below {w w' : World} {b : Nat} {s : Sp} (h : BoxS w b s) (hb : Below w.heap.size w w') : BoxS w' b s := by
  have h' : w.heap[b]? = _ := h
  exact (hb.block b (Array.getElem?_eq_some_iff.1 h').1).trans h'
theorem boxS_cells {w : World} {b : Nat} {s : Sp} (h : BoxS w b s) : b < w.heap.size ∧ w.cell? ⟨b, 0, none⟩ = some (.int .i64 s.kind) ∧ w.cell? ⟨b, 1, none⟩ = some (.int .i64 s.num) ∧ w.cell? ⟨b, 2, none⟩ = some (.int .i64 s.mtu) := by
  have h' : w.heap[b]? = _ := h
  refine ⟨(Array.getElem?_eq_some_iff.1 h').1, ?_, ?_, ?_⟩
  · rw [cell_of_row _ _ _ _ _ (0, 0) h']; rfl
  · rw [cell_of_row _ _ _ _ _ (0, 0) h']; rfl
  · rw [cell_of_row _ _ _ _ _ (0, 0) h']; rfl

/-- both, side by side: the program's interfaces in block p, the reference's row v; W: where it began -/
structure Both (W w : World) (p : Nat) (g : PG) (v : Value) : Prop where
  pts : PtsAt w p W.heap.size g
  row : RowAt w W.heap.size v (lst (abs g))
  ok : OkS (abs g)
  bel : Below W.heap.size W w
theorem Both.below {W w w' : World} {p : Nat} {g : PG} {v : Value} (h : Both W w p g v) (hb : Below w.heap.size w w') : Both W w' p g v :=
  ⟨h.pts.below hb, h.row.below hb, h.ok, h.bel.trans (hb.mono h.bel.size)⟩
/-- behind a change of the program's -/
theorem Both.chg {W w w' : World} {p : Nat} {g g' : PG} {v : Value} (h : Both W w p g v) (hc : Chg w w' p W.heap.size g g') (hok : OkS (abs g')) : PtsAt w' p W.heap.size g' ∧ RowAt w' W.heap.size v (lst (abs g)) ∧ OkS (abs g') ∧ Below W.heap.size W w' :=
  ⟨hc.to, rowAt_kept h.row h.pts hc.kept, hok, h.bel.trans (h.pts.kept_below hc.kept h.bel.size)⟩
theorem both_of {W w w' : World} {p : Nat} {g' : PG} {v v' : Value} {S : PS} (h : PtsAt w p W.heap.size g' ∧ RowAt w W.heap.size v (lst S) ∧ OkS (abs g') ∧ Below W.heap.size W w) (hr : RowAt w' W.heap.size v' (lst (abs g'))) (hb : Below w.heap.size w w') : Both W w' p g' v' :=
  ⟨h.1.below hb, hr, h.2.2.1, h.2.2.2.trans (hb.mono h.2.2.2.size)⟩
theorem okS_upd {S : PS} {k : Nat} {x : Option (Int × Bool)} (h : OkS S) (hx : ∀ y, x = some y → 68 ≤ y.1 ∧ y.1 ≤ 65535) : OkS (updP S k x) := by
  intro i y hy
  unfold updP at hy
  split at hy
  · exact hx y hy
  · exact h i y hy
theorem okS_add {S : PS} (h : OkS S) (n mtu : Int) : OkS (addS S n mtu) := by
  unfold addS
  split
  · rename_i he
    unfold addE at he
    split at he
    · cases he
    · split at he
      · cases he
      · rename_i hm
        refine okS_upd h fun y hy => ?_
        cases hy
        simp only
        omega
  · exact h
theorem okS_rem {S : PS} (h : OkS S) (n : Int) : OkS (remS S n) := by
  unfold remS
  split
  · exact okS_upd h fun y hy => by cases hy
  · exact h
theorem okS_set {S : PS} (h : OkS S) (n : Int) (u : Bool) : OkS (setS S n u) := by
  unfold setS
  split
  · refine okS_upd h fun y hy => ?_
    cases hs : S n.toNat with
    | none => rw [hs] at hy; cases hy
    | some x => rw [hs] at hy; cases hy; exact h _ x hs
  · exact h

/-- what a step's end asks -/
theorem tail_facts {W w : World} {p bs : Nat} {g : PG} {v : Value} {kind num mtu : Int} (h : Both W w p g v) (hx : BoxS w bs ⟨kind, num, mtu⟩) : ∃ A c, v = .slice A (lst (abs g)).length c ∧
    Hid (∀ x : Cls w.heap.size w, Calls Tryd.prog 13 #[.pointer (some ⟨p, 0, none⟩), .int .i64 num] x.w fun e w' => e = .returned (.bool (upS (abs g) num)) ∧ x.w = w') ∧
    Hid (∀ x : Cls w.heap.size w, Calls Tryd.prog 14 #[.pointer (some ⟨p, 0, none⟩), .int .i64 num] x.w fun e w' => e = .returned (.int .i64 (mtuS (abs g) num)) ∧ x.w = w') ∧
    Hid (∀ x : Cls w.heap.size w, Calls Tryd.prog 20 #[.slice A (lst (abs g)).length c, .int .i64 num] x.w fun e w' => e = .returned (.bool (upS (abs g) num)) ∧ Below x.w.heap.size x.w w') ∧
    Hid (∀ x : Cls w.heap.size w, Calls Tryd.prog 21 #[.slice A (lst (abs g)).length c, .int .i64 num] x.w fun e w' => e = .returned (.int .i64 (mtuS (abs g) num)) ∧ Below x.w.heap.size x.w w') ∧
    Hid (∀ x : Cls w.heap.size w, Both W x.w p g (.slice A (lst (abs g)).length c)) ∧ Nonempty (Cls w.heap.size w) ∧ (∀ x : Cls w.heap.size w, x.w.cell? ⟨bs, 1, none⟩ = some (.int .i64 num)) := by
  obtain ⟨A, c, rfl, hc, hr⟩ := h.row.rd
  have hl := lst_len (abs g)
  refine ⟨A, c, rfl, Lib.hid fun x => up_any (h.pts.below x.bel) num, Lib.hid fun x => mtu_any (h.pts.below x.bel) num, Lib.hid fun x => ?_, Lib.hid fun x => ?_, Lib.hid fun x => h.below x.bel, Cls.some _ _, fun x => (boxS_cells (boxS_below hx x.bel)).2.2.1⟩
  · rw [← upL_lst]; exact rup_any (hr.below x.bel) num (by omega)
  · rw [← mtuL_lst]; exact rmtu_any (hr.below x.bel) num (by omega)

set_option maxRecDepth 100000 in
set_option maxHeartbeats 8000000 in
theorem run_any {W w : World} {p : Nat} {A : Option Addr} {n c : Nat} {l : List Sp} (hp : PtsAt w p W.heap.size (fun _ => none)) (hb : Below W.heap.size W w) (hr : Rd spc 3 W A n l) (hn : n ≤ 80) :
    Calls Tryd.prog 8 #[.pointer (some ⟨p, 0, none⟩), .slice A n c] w fun e w' => ∃ g v, e = .returned (.tuple #[v, .bool true]) ∧ Both W w' p g v := by
  have HR := Lib.hid hr
  have H0 := Lib.hid (show Both W w p (fun _ => none) (.slice none 0 0) from ⟨hp, rowAt_nil _ _, (fun i x hx => by cases hx), hb⟩)
  clear hr hp hb
  go_enter Tryd.func8, Tryd.ntmps8
  go_wp2_with fail
  go_loopw [6, 7] (fun v i wr => ∃ (k : Nat) (g : PG), k ≤ n ∧ i = .int .i64 k ∧ Both W wr p g v) (fun _ i _ => n - (intOf i).toNat)
  case atStart => exact ⟨0, _, Nat.zero_le _, rfl, H0.out⟩
  case round =>
    obtain ⟨k, g, hk, rfl, hB⟩ := hrel
    have HB := Lib.hid hB
    clear hB
    have hk0 : (0 : Int) ≤ k := by omega
    by_cases hlt : k < n
    · have hk1 : (k : Int) < n := by omega
      obtain ⟨s, b, off, hs, rfl, hc⟩ := (HR.out.below HB.out.bel).at_ hlt
      have c0 := hc 0 _ rfl
      have c1 := hc 1 _ rfl
      have c2 := hc 2 _ rfl
      rw [Nat.add_zero] at c0
      obtain ⟨kind, num, mtu⟩ := s
      simp only at c0 c1 c2
      clear hs hc
      go_upto_region 6 with fail
      have HX : Hid (BoxS (wr.alloc (.cells #[.int .i64 kind, .int .i64 num, .int .i64 mtu] 48)) wr.heap.size ⟨kind, num, mtu⟩) := Lib.hid (heap_alloc_new _ _)
      have HB1 := Lib.hid (HB.out.below (below_al1 wr (.cells #[.int .i64 kind, .int .i64 num, .int .i64 mtu] 48)))
      generalize hS : wr.heap.size = bs at HX ⊢
      generalize World.alloc _ _ = w1 at HX HB1 ⊢
      clear c0 c1 c2 hS
      obtain ⟨q, q0, q1, q2⟩ := boxS_cells HX.out
      simp only at q0 q1 q2
      by_cases k0 : kind = 0
      case' pos =>
        subst k0
        go_wp2_with fail
        refine (add_any HB1.out.pts HB1.out.bel.size num mtu).mono ?_
        rintro e w2 ⟨rfl, g', hg', hch⟩
        have HG := Lib.hid hg'
        have HC := Lib.hid (HB1.out.chg hch (by rw [hg']; exact okS_add HB1.out.ok num mtu))
        have HX2 := Lib.hid (boxS_kept HX.out HB1.out.pts hch.kept)
        clear q q0 q1 q2 hg' hch
        obtain ⟨q, q0, q1, q2⟩ := boxS_cells HX2.out
        simp only at q0 q1 q2
        go_wp2_with fail
        refine (radd_any HC.out.2.1 HC.out.2.2.2.size num mtu).mono ?_
        rintro e w3 ⟨v', rfl, hrow, hb3⟩
        have HF := Lib.hid (both_of HC.out (by rw [HG.out]; exact hrow) hb3)
        have HX3 := Lib.hid (boxS_below HX2.out hb3)
        clear q q0 q1 q2 hrow hb3 HC HX2 HG HX HB1
        generalize addE (abs g) num mtu = er
        go_upto_region 19 with fail
      case' neg =>
        by_cases k1 : kind = 1
        case' pos =>
          subst k1
          clear k0
          go_wp2_with fail
          refine (rem_any HB1.out.pts num).mono ?_
          rintro e w2 ⟨rfl, g', hg', hch⟩
          have HG := Lib.hid hg'
          have HC := Lib.hid (HB1.out.chg hch (by rw [hg']; exact okS_rem HB1.out.ok num))
          have HX2 := Lib.hid (boxS_kept HX.out HB1.out.pts hch.kept)
          clear q q0 q1 q2 hg' hch
          obtain ⟨q, q0, q1, q2⟩ := boxS_cells HX2.out
          simp only at q0 q1 q2
          go_wp2_with fail
          refine (rrem_any HC.out.2.1 HC.out.2.2.2.size num).mono ?_
          rintro e w3 ⟨v', rfl, hrow, hb3⟩
          have HF := Lib.hid (both_of HC.out (by rw [HG.out]; exact hrow) hb3)
          have HX3 := Lib.hid (boxS_below HX2.out hb3)
          clear q q0 q1 q2 hrow hb3 HC HX2 HG HX HB1
          generalize hasE (abs g) num = er
          go_upto_region 19 with fail
        case' neg =>
          by_cases k2 : kind = 2
          case' pos =>
            subst k2
            clear k0 k1
            go_wp2_with fail
            refine (set_any HB1.out.pts num true).mono ?_
            rintro e w2 ⟨rfl, g', hg', hch⟩
            have HG := Lib.hid hg'
            have HC := Lib.hid (HB1.out.chg hch (by rw [hg']; exact okS_set HB1.out.ok num true))
            have HX2 := Lib.hid (boxS_kept HX.out HB1.out.pts hch.kept)
            clear q q0 q1 q2 hg' hch
            obtain ⟨q, q0, q1, q2⟩ := boxS_cells HX2.out
            simp only at q0 q1 q2
            go_wp2_with fail
            refine (rset_any HC.out.2.1 HC.out.2.2.2.size num true).mono ?_
            rintro e w3 ⟨v', rfl, hrow, hb3⟩
            have HF := Lib.hid (both_of HC.out (by rw [HG.out]; exact hrow) hb3)
            have HX3 := Lib.hid (boxS_below HX2.out hb3)
            clear q q0 q1 q2 hrow hb3 HC HX2 HG HX HB1
            generalize hasE (abs g) num = er
            go_upto_region 19 with fail
          case' neg =>
            by_cases k3 : kind = 3
            case' pos =>
              subst k3
              clear k0 k1 k2
              go_wp2_with fail
              refine (set_any HB1.out.pts num false).mono ?_
              rintro e w2 ⟨rfl, g', hg', hch⟩
              have HG := Lib.hid hg'
              have HC := Lib.hid (HB1.out.chg hch (by rw [hg']; exact okS_set HB1.out.ok num false))
              have HX2 := Lib.hid (boxS_kept HX.out HB1.out.pts hch.kept)
              clear q q0 q1 q2 hg' hch
              obtain ⟨q, q0, q1, q2⟩ := boxS_cells HX2.out
              simp only at q0 q1 q2
              go_wp2_with fail
              refine (rset_any HC.out.2.1 HC.out.2.2.2.size num false).mono ?_
              rintro e w3 ⟨v', rfl, hrow, hb3⟩
              have HF := Lib.hid (both_of HC.out (by rw [HG.out]; exact hrow) hb3)
              have HX3 := Lib.hid (boxS_below HX2.out hb3)
              clear q q0 q1 q2 hrow hb3 HC HX2 HG HX HB1
              generalize hasE (abs g) num = er
              go_upto_region 19 with fail
            case' neg =>
              have d0 : (kind == 0) = false := by simpa using k0
              have d1 : (kind == 1) = false := by simpa using k1
              have d2 : (kind == 2) = false := by simpa using k2
              have d3 : (kind == 3) = false := by simpa using k3
              clear k0 k1 k2 k3
              have HF := HB1
              have HX3 := HX
              go_upto_region 19 with fail
              clear q q0 q1 q2 HB1 HX d0 d1 d2 d3
      all_goals
        obtain ⟨A', c', rfl, HQ1, HQ2, HQ3, HQ4, HQ5, hne, d1⟩ := tail_facts HF.out HX3.out
        refine wp_region_cls0 (by kernel_rfl) (by kernel_rfl) ?_
        repeat (quiet_step (first
          | (go_at_call 13; exact cls_same' _ (HQ1.out _))
          | (go_at_call 14; exact cls_same' _ (HQ2.out _))
          | (go_at_call 20; exact cls_of _ (HQ3.out _) (Nat.le_refl _))
          | (go_at_call 21; exact cls_of _ (HQ4.out _) (Nat.le_refl _))))
        refine wpQuiet_nil ?_
        rintro _ ⟨x, rfl⟩
        have HFX := HQ5.out x
        have HFY := Lib.hid HFX
        clear HFX d1
        go_wp2
        go_roundw
        case rel => exact ⟨k + 1, _, by omega, by go_num, HFY.out⟩
        case measure => simp [intOf]; omega
    · obtain rfl : k = n := by omega
      go_wp2_with fail
      go_ret2
      exact ⟨g, _, rfl, HB.out⟩
end Go.Proofs.YtheggpklgeobkaaDoor
