/-
  The pool: add.
-/
import Derived.Test.YtifadjakpllpfaaMut
namespace Go.Proofs.Ytifadjakpllpfaa
open Go.RowKit

def free (t : Value × Int) : Bool := t.2 == 0

theorem free_any (x : Value) (u : Int) (w : World) :
    Calls Try.prog 38 #[.agg #[x, .int .i64 u]] w fun e w' => e = .returned (.bool (u == 0)) ∧ Below w.heap.size w w' := by
  go_enter Try.func38, Try.ntmps38
  go_wp2
  go_ret
  exact ⟨rfl, by go_grown⟩

set_option maxHeartbeats 1000000 in
theorem index_any {w : World} {B : Nat} {v : Value} {ts : List (Value × Int)} (hown : w.ownsRow B 79 2 v ts.length (flatE thg ts)) (hlen : ts.length ≤ 100) (hone : ∀ t, t ∈ ts → t.1.oneCell' = true) :
    Calls Try.prog 37 #[v, .func (.func 38) #[] #[]] w fun e w' => e = .returned (.int .i64 (firstIdx (fun i => free (ts.getD i (.nilIface, 0))) ts.length)) ∧ Below w.heap.size w w' := by
  obtain ⟨A, c, rfl, hnc, hrd⟩ := Rd.of_own thg_len (by decide) hown
  clear hown
  generalize hn : ts.length = n at *
  go_enter Try.func37, Try.ntmps37
  go_wp2
  go_loopw [8] (fun v W => ∃ k : Nat, k ≤ n ∧ v = .int .i64 k ∧ Below w.heap.size w W ∧ ∀ j, j < k → free (ts.getD j (.nilIface, 0)) = false) (fun v _ => n - (intOf v).toNat)
  case atStart => exact ⟨0, Nat.zero_le _, rfl, Below.refl _ _, fun j hj => absurd hj (by omega)⟩
  case round =>
    obtain ⟨k, hk, rfl, hb, hp⟩ := hrel
    by_cases hlt : k < n
    · obtain ⟨⟨x, u⟩, b, off, hx, hA, hc⟩ := (hrd.below hb).at_ hlt
      subst hA
      have hc0 : wr.cell? ⟨b, off + k * 2, none⟩ = some x := hc 0 x rfl
      have hc1 : wr.cell? ⟨b, off + k * 2 + 1, none⟩ = some (.int .i64 u) := hc 1 _ rfl
      have hx1 : x.oneCell' = true := hone (x, u) (List.mem_of_getElem? hx)
      have HX := Lib.hid hx; have HP := Lib.hid hp; have HR := Lib.hid hrd; have HO := Lib.hid hone
      clear hx hp hrd hone hc hn
      by_cases hu : (u == 0) = true
      · go_wp2_with (go_at_call 38; refine (free_any x u wr).mono ?_; rintro e w' ⟨rfl, hb'⟩)
        go_ret
        refine ⟨?_, hb.trans (hb'.mono hb.size)⟩
        rw [firstIdx_some hlt (by rw [getD_of HX.out]; exact hu) HP.out]; rfl
      · have hu' : (u == 0) = false := by simpa using hu
        go_wp2_with (go_at_call 38; refine (free_any x u wr).mono ?_; rintro e w' ⟨rfl, hb'⟩)
        go_roundw
        case rel =>
          refine ⟨k + 1, by omega, by go_num, hb.trans (hb'.mono hb.size), fun j hj => ?_⟩
          by_cases hjk : j = k
          · rw [hjk, getD_of HX.out]; exact hu'
          · exact HP.out j (by omega)
        case measure => simp [intOf]; omega
    · have hkn : n = k := by omega
      subst hkn
      have HP := Lib.hid hp; have HR := Lib.hid hrd; have HO := Lib.hid hone
      clear hp hrd hone hn
      go_wp2
      go_ret
      exact ⟨by rw [firstIdx_none HP.out]; rfl, hb⟩

/-- the place that a new thing takes -/
def slot (ts : List (Value × Int)) : Nat := ts.findIdx free
/-- a list in which an element stands at a place -/
def put {α : Type} (l : List α) (i : Nat) (x : α) : List α := if i = l.length then l ++ [x] else l.set i x

theorem slot_idx (ts : List (Value × Int)) : (firstIdx (fun i => free (ts.getD i (.nilIface, 0))) ts.length = -1 ∧ slot ts = ts.length) ∨
    (firstIdx (fun i => free (ts.getD i (.nilIface, 0))) ts.length = (slot ts : Int) ∧ slot ts < ts.length ∧ ∃ t, ts[slot ts]? = some t ∧ t.2 = 0) := by
  rcases firstIdx_cases (fun i => free (ts.getD i (.nilIface, 0))) ts.length with ⟨h1, h2⟩ | ⟨i, h1, h2, h3, h4⟩
  · refine .inl ⟨h1, List.findIdx_eq_length.2 fun x hx => ?_⟩
    obtain ⟨i, hi, rfl⟩ := List.getElem_of_mem hx
    have := h2 i hi
    rwa [getD_of (List.getElem?_eq_getElem hi)] at this
  · have : slot ts = i := by
      refine (List.findIdx_eq h2).2 ⟨?_, fun j hj => ?_⟩
      · rwa [getD_of (List.getElem?_eq_getElem h2)] at h3
      · have := h4 j hj
        rwa [getD_of (List.getElem?_eq_getElem (show j < ts.length by omega))] at this
    rw [this]
    refine .inr ⟨h1, h2, _, List.getElem?_eq_getElem h2, ?_⟩
    rw [getD_of (List.getElem?_eq_getElem h2)] at h3
    simpa [free] using h3

theorem PoolIs.mono {w w' : World} {B g : Nat} {room cnt : Int} {v : Value} {ts : List (Value × Int)} (h : PoolIs w B g room cnt v ts) (hb : Below w.heap.size w w') : PoolIs w' B g room cnt v ts :=
  ⟨h.low, (hb.block g (Array.getElem?_eq_some_iff.1 h.blk).1).trans h.blk, own_below h.own hb, h.uses, h.one, h.len⟩

theorem info_thing : (Try.prog.info? 79).map (fun i => (i.zero, i.size, i.bytes)) = some (some (.agg #[.nilIface, .int .i64 0]), 2, 24) := by kernel_rfl

theorem add_nil (x : Value) (w : World) : Calls Try.prog 34 #[.pointer none, x] w fun e w' => e = .returned (.tuple #[.int .i64 0, .int .i64 1]) ∧ w' = w := by
  go_enter Try.func34, Try.ntmps34
  go_wp2
  go_ret2
  exact ⟨rfl, rfl⟩

set_option maxHeartbeats 1000000 in
theorem add_full {w : World} {B g : Nat} {room : Int} {v : Value} {ts : List (Value × Int)} (x : Value) (h : PoolAt w B g room v ts) (hf : (used ts : Int) = room) :
    Calls Try.prog 34 #[.pointer (some ⟨g, 0, none⟩), x] w fun e w' => e = .returned (.tuple #[.int .i64 0, .int .i64 30]) ∧ Below w.heap.size w w' := by
  have c0 := h.c0
  have c1 := h.c1
  rw [hf] at c1
  clear h hf
  go_enter Try.func34, Try.ntmps34
  go_wp2
  go_quiet (fail)
  go_wp2
  go_ret2
  exact ⟨rfl, below_drewN (Below.refl _ _) _⟩

theorem used_append (ts : List (Value × Int)) (t : Value × Int) : used (ts ++ [t]) = used ts + if t.2 ≠ 0 then 1 else 0 := by
  simp only [used, List.countP_append, List.countP_cons, List.countP_nil, decide_eq_true_eq]
  omega

set_option maxHeartbeats 1000000 in
theorem add_old {w : World} {B g : Nat} {room : Int} {v : Value} {ts : List (Value × Int)} (ty : TypeId) (y : Value) (h : PoolAt w B g room v ts) (hf : (used ts : Int) ≠ room) (hs : slot ts < ts.length) :
    Calls Try.prog 34 #[.pointer (some ⟨g, 0, none⟩), .iface ty y] w fun e w' => e = .returned (.tuple #[.int .i64 (slot ts), .int .i64 0]) ∧ PoolAt w' B g room v (ts.set (slot ts) (.iface ty y, 1)) ∧ Mut B w w' := by
  obtain ⟨hi, -, t, ht, ht0⟩ : firstIdx (fun i => free (ts.getD i (.nilIface, 0))) ts.length = (slot ts : Int) ∧ slot ts < ts.length ∧ ∃ t, ts[slot ts]? = some t ∧ t.2 = 0 := by
    rcases slot_idx ts with ⟨-, h2⟩ | h2
    · omega
    · exact h2
  have c0 := h.c0
  have c1 := h.c1
  have hus := used_set (t' := (.iface ty y, 1)) ht
  rw [if_neg (by omega), if_pos (by simp)] at hus
  have HU := Lib.hid (show used (ts.set (slot ts) (.iface ty y, 1)) = used ts + 1 by omega)
  have hu100 : used ts ≤ 100 := Nat.le_trans List.countP_le_length h.len
  have HI := Lib.hid hi
  have HT := Lib.hid ht
  have HP := Lib.hid (show PoolIs w B g room (used ts) v ts from h)
  unfold PoolAt
  rw [HU.out]
  generalize used ts = u at *
  generalize slot ts = i at *
  have hd : decide ((u : Int) = room) = false := by simpa using hf
  clear hi ht hus h ht0
  go_enter Try.func34, Try.ntmps34
  go_wp2
  go_quiet (fail)
  obtain ⟨W0, hW0⟩ : ∃ W0, W0 = w.drewN nq := ⟨_, rfl⟩
  rw [← hW0]
  have hb0 : Below w.heap.size w W0 := by rw [hW0]; exact below_drewN (Below.refl _ _) _
  clear hW0
  have h0 := HP.out.mono hb0
  have h1 := h0.setCnt ((u : Int) + 1)
  have d1 := h0.c1
  have d2 := h0.c2
  have df := h0.fr 1
  have HX := Lib.hid (index_any h1.1.own h1.1.len h1.1.one)
  rw [HI.out] at HX
  have H1 := Lib.hid h1
  have HB := Lib.hid hb0
  clear h0 h1 hb0 c0 c1
  go_wp2_with fail
  refine (HX.out).mono ?_
  rintro e w1 ⟨rfl, hb1⟩
  have h2 := H1.out.1.mono hb1
  have e2 := h2.c2
  have HM := Lib.hid ((Mut.below HB.out).trans (H1.out.2.trans (Mut.below hb1)))
  have HB1 := Lib.hid hb1
  generalize W0.setCell ⟨g, 1, none⟩ (.int .i64 (↑u + 1)) = W1 at *
  obtain ⟨b, c, rfl, hnc, hi, hbg, hc0, hc1⟩ := h2.thing HT.out
  have hf0 : w1.frozen? ⟨b, i * 2, none⟩ = false := h2.own.frozenAt _
  have hf1 : w1.frozen? ⟨b, i * 2 + 1, none⟩ = false := h2.own.frozenAt _
  have HS := Lib.hid (h2.setThing hi (.iface ty y) 1 (by omega) rfl)
  clear h2 hb1
  go_wp2
  go_ret2
  refine ⟨rfl, ?_, HM.out.trans HS.out.2⟩
  have hs1 := HS.out.1
  rw [show ((u : Int) + 1) = ((u + 1 : Nat) : Int) by omega] at hs1
  exact hs1

theorem after_append {w w2 : World} {B g n : Nat} {room cnt : Int} {v v' : Value} {ts : List (Value × Int)} {o : Obj} (h : PoolIs w B g room cnt v ts) (hn : ts.length = n) (hl : n < 100)
    (hown : w2.ownsRow B 79 2 v' (n + 1) (flatE thg ts ++ flatE thg [(.nilIface, 0)])) (hg : (w.alloc o).grownBy w2 v.ownBlock) (ty : TypeId) (y : Value) :
    ∃ b c, v' = .slice (some ⟨b, 0, none⟩) (n + 1) c ∧ n + 1 ≤ c ∧ w2.cell? ⟨g, 2, none⟩ = some v ∧ w2.frozen? ⟨g, 2, none⟩ = false ∧ b ≠ g ∧
      w2.cell? ⟨b, n * 2, none⟩ = some .nilIface ∧ w2.cell? ⟨b, n * 2 + 1, none⟩ = some (.int .i64 0) ∧ w2.frozen? ⟨b, n * 2, none⟩ = false ∧ w2.frozen? ⟨b, n * 2 + 1, none⟩ = false ∧
      PoolIs (((w2.setCell ⟨g, 2, none⟩ v').setCell ⟨b, n * 2, none⟩ (.iface ty y)).setCell ⟨b, n * 2 + 1, none⟩ (.int .i64 1)) B g room cnt v' (ts ++ [(.iface ty y, 1)]) ∧
      Mut B w (((w2.setCell ⟨g, 2, none⟩ v').setCell ⟨b, n * 2, none⟩ (.iface ty y)).setCell ⟨b, n * 2 + 1, none⟩ (.int .i64 1)) := by
  have hg' : w.grownBy w2 v.ownBlock := grown_trans (grown_of_below ((Below.refl _ w).alloc (Nat.le_refl _) o) _) hg
  rw [← flatE_append] at hown
  have hown' : w2.ownsRow B 79 2 v' (ts ++ [((Value.nilIface : Value), (0 : Int))]).length (flatE thg (ts ++ [((Value.nilIface : Value), (0 : Int))])) := by simpa [hn] using hown
  have h1 := h.setThings hg' hown' (by
      intro t ht
      rcases List.mem_append.1 ht with h' | h'
      · exact h.uses t h'
      · simp at h'; subst h'; exact ⟨Int.le_refl _, by decide⟩) (by
      intro t ht
      rcases List.mem_append.1 ht with h' | h'
      · exact h.one t h'
      · simp at h'; subst h'; rfl) (by simp; omega)
  have ht : (ts ++ [((Value.nilIface : Value), (0 : Int))])[n]? = some (.nilIface, 0) := by rw [← hn]; simp
  obtain ⟨b, c, rfl, hnc, -, hbg, -, -⟩ := h1.1.thing ht
  have hl1 : (ts ++ [((Value.nilIface : Value), (0 : Int))]).length = n + 1 := by simp [hn]
  have h2 := h1.1.setThing (i := n) (by omega) (.iface ty y) 1 (by omega) rfl
  have hset : (ts ++ [((Value.nilIface : Value), (0 : Int))]).set n (.iface ty y, 1) = ts ++ [(.iface ty y, 1)] := by
    rw [← hn, List.set_append_right _ _ (Nat.le_refl _)]; simp
  rw [hset] at h2
  have hne : v.ownBlock ≠ some g := by
    rcases own_form h.own with ⟨rfl, -⟩ | ⟨b, c, rfl, -⟩
    · simp [Value.ownBlock]
    · have := h.unsafeB.2.1
      simpa [Value.ownBlock] using this
  have hgs : g < w.heap.size := (Array.getElem?_eq_some_iff.1 h.blk).1
  have hblk : w2.heap[g]? = some (.cells #[.int .i64 room, .int .i64 cnt, v] 66 (0, 0)) := by
    rw [hg'.block g hgs (fun e => hne e.symm)]; exact h.blk
  rw [hl1] at hnc h2 h1 ⊢
  have hc0 := hown'.cellAt (n * 2) (by omega)
  have hc1 := hown'.cellAt (n * 2 + 1) (by omega)
  rw [show n * 2 = n * 2 + 0 from rfl, flatE_at thg_len ht (by omega)] at hc0
  rw [flatE_at thg_len ht (by omega)] at hc1
  refine ⟨b, c, rfl, hnc, ?_, frozen_of_row w2 g 2 _ _ hblk, hbg, hc0, hc1, hown'.frozenAt _, hown'.frozenAt _, h2.1, h1.2.trans h2.2⟩
  rw [cell_of_row w2 g 2 _ _ (0, 0) hblk]; rfl

set_option maxHeartbeats 1000000 in
theorem add_new {w : World} {B g : Nat} {room : Int} {v : Value} {ts : List (Value × Int)} (ty : TypeId) (y : Value) (h : PoolAt w B g room v ts) (hf : (used ts : Int) ≠ room) (hs : slot ts = ts.length) (hl : ts.length < 100) (hB : B ≤ w.heap.size) :
    Calls Try.prog 34 #[.pointer (some ⟨g, 0, none⟩), .iface ty y] w fun e w' => e = .returned (.tuple #[.int .i64 (slot ts), .int .i64 0]) ∧ (∃ v', PoolAt w' B g room v' (ts ++ [(.iface ty y, 1)])) ∧ Mut B w w' := by
  have hi : firstIdx (fun i => free (ts.getD i (.nilIface, 0))) ts.length = -1 := by
    rcases slot_idx ts with ⟨h1, -⟩ | ⟨-, h2, -⟩
    · exact h1
    · omega
  obtain ⟨i0, hi0, hz0, hz1, hz2⟩ := info_parts info_thing
  have c0 := h.c0
  have c1 := h.c1
  have hus := used_append ts (.iface ty y, 1)
  rw [if_pos (by simp)] at hus
  have HU := Lib.hid hus
  have hu100 : used ts ≤ 100 := Nat.le_trans List.countP_le_length h.len
  have HI := Lib.hid hi
  have HI0 := Lib.hid hi0; have HZ0 := Lib.hid hz0; have HZ1 := Lib.hid hz1; have HZ2 := Lib.hid hz2
  have HP := Lib.hid (show PoolIs w B g room (used ts) v ts from h)
  unfold PoolAt
  rw [HU.out, hs]
  generalize used ts = u at *
  have hd : decide ((u : Int) = room) = false := by simpa using hf
  generalize hn : ts.length = n at *
  have hn100 : n < 100 := hl
  clear hi hus h hs hi0 hz0 hz1 hz2 hl
  go_enter Try.func34, Try.ntmps34
  go_wp2
  go_quiet (fail)
  obtain ⟨W0, hW0⟩ : ∃ W0, W0 = w.drewN nq := ⟨_, rfl⟩
  rw [← hW0]
  have hb0 : Below w.heap.size w W0 := by rw [hW0]; exact below_drewN (Below.refl _ _) _
  clear hW0
  have h0 := HP.out.mono hb0
  have h1 := h0.setCnt ((u : Int) + 1)
  have d1 := h0.c1
  have d2 := h0.c2
  have df := h0.fr 1
  have HX := Lib.hid (index_any h1.1.own h1.1.len h1.1.one)
  rw [hn, HI.out] at HX
  have H1 := Lib.hid h1
  have HB := Lib.hid hb0
  clear h0 h1 hb0 c0 c1
  go_wp2_with fail
  refine (HX.out).mono ?_
  rintro e w1 ⟨rfl, hb1⟩
  have h2 := H1.out.1.mono hb1
  have e2 := h2.c2
  have ef := h2.fr 2
  have HM := Lib.hid ((Mut.below HB.out).trans (H1.out.2.trans (Mut.below hb1)))
  have HB1 := Lib.hid hb1
  generalize W0.setCell ⟨g, 1, none⟩ (.int .i64 (↑u + 1)) = W1 at *
  obtain ⟨A, c, rfl, hnc, -⟩ := Rd.of_own thg_len (by decide) h2.own
  have hown := h2.own
  rw [hn] at hown hnc e2 h2
  have H2 := Lib.hid h2
  have hone : ∀ z ∈ flatE thg [((Value.nilIface : Value), (0 : Int))], z.oneCell' = true := by
    intro z hz
    simp [flatE, thg] at hz
    rcases hz with rfl | rfl <;> rfl
  have HO := Lib.hid hown
  have HN := Lib.hid hn
  have hz : B ≤ w1.heap.size := Nat.le_trans hB HM.out.size
  clear hb1 h2 hown hn
  go_wp2_with
    (at_builtin
     refine wpList_append_own _ rfl _ _ 64 rfl B 79 i0 (.agg #[.nilIface, .int .i64 0]) 2 24 Try.underlying64 HI0.out HZ0.out HZ1.out HZ2.out rfl (by decide) _ n _ rfl
       (HO.out.alloc _) ⟨w1.heap.size, 0, none⟩ 1 1 (flatE thg [(.nilIface, 0)]) rfl rfl (new_cells w1 (flatE thg [(.nilIface, 0)]) 79) hone (by simp [maxLen]; omega) (by omega) (by simp; omega) ?_
     intro v' w2 hown2 hgrow _
     obtain ⟨b, c', rfl, hnc', k2, kf, hgb, kc0, kc1, kf0, kf1, hfin⟩ := after_append H2.out HN.out hn100 hown2 hgrow ty y
     have HF := Lib.hid hfin
     clear hfin hown2 hgrow)
  go_ret2
  have hs1 := HF.out.1
  have hs2 := HM.out.trans HF.out.2
  refine ⟨rfl, ⟨.slice (some ⟨b, 0, none⟩) (n + 1) c', ?_⟩, hs2⟩
  rw [show ((u : Int) + 1) = ((u + 1 : Nat) : Int) by omega] at hs1
  exact hs1

end Go.Proofs.Ytifadjakpllpfaa
