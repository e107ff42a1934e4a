/-
  slices.AppendSeq, slices.Collect, All: the interfaces as a row.
-/
import Derived.Test.YtheggpklgeobkaaDoorIter
import Derived.Test.YtheggpklgeobkaaDoorRefB
namespace Go.Proofs.YtheggpklgeobkaaDoor
open Go.RowKit Go.Shelf
attribute [local go_sem] Oper.semAt_some

theorem Tryd.info_port : (Tryd.prog.info? 42).map (fun i => (i.zero, i.size, i.bytes)) = some (some (.agg #[.int .i64 0, .int .i64 0, .bool false]), 3, 24) := by kernel_rfl
/-- a loop variable of three cells in its box -/
def Box3 (W : World) (b : Nat) (x : Pe) : Prop := W.heap[b]? = some (.cells #[.int .i64 x.num, .int .i64 x.mtu, .bool x.up] 42 (0, 0))
theorem box3_own (b : Nat) (x : Pe) : Own (fun (_ : Unit) W => Box3 W b x) := fun s X Y row hs hg hrow => by
  have hs' : X.heap[b]? = _ := hs
  have hne : some b ≠ row := fun e' => by obtain ⟨o, ho, hc⟩ := hrow b e'.symm; rw [hs'] at ho; cases ho; cases hc
  exact (hg.block b (Array.getElem?_eq_some_iff.1 hs').1 hne).trans hs'
theorem box3_cells {W : World} {b : Nat} {x : Pe} (h : Box3 W b x) : b < W.heap.size ∧ W.cell? ⟨b, 0, none⟩ = some (.int .i64 x.num) ∧ W.cell? ⟨b, 1, none⟩ = some (.int .i64 x.mtu) ∧ W.cell? ⟨b, 2, none⟩ = some (.bool x.up) := by
  have h' : W.heap[b]? = _ := h
  refine ⟨(Array.getElem?_eq_some_iff.1 h').1, ?_, ?_, ?_⟩
  · rw [cell_of_row _ _ _ _ _ (0, 0) h']; rfl
  · rw [cell_of_row _ _ _ _ _ (0, 0) h']; rfl
  · rw [cell_of_row _ _ _ _ _ (0, 0) h']; rfl
theorem cells_new3 (w : World) (x : Pe) : ∀ j u, (pen x)[j]? = some u → (w.alloc (.cells #[.int .i64 x.num, .int .i64 x.mtu, .bool x.up] 42)).cell? ((⟨w.heap.size, 0, none⟩ : Addr).add j) = some u := by
  intro j u hu
  have hadd : (⟨w.heap.size, 0, none⟩ : Addr).add j = ⟨w.heap.size, j, none⟩ := by unfold Addr.add; split <;> simp_all
  rw [hadd, cell_of_row _ _ _ _ _ (0, 0) (heap_alloc_new _ _), ← hu]
  simp [pen]

set_option maxRecDepth 100000 in
set_option maxHeartbeats 4000000 in
theorem appendSeq_in (n : Nat) (hn : 3 ≤ n) (bx n₀ : Nat) (xs : List Pe) (hxs : xs.length ≤ 64) (w : World) (hst : ∀ w', Below w.heap.size w w' → Stops (fun x : Pe => x) (n - 1) bx n₀ xs w') (hn₀ : n₀ ≤ w.heap.size) :
    CallsIn Fence.wide n Tryd.prog 35 #[.slice none 0 0, .func (.func 32) #[] #[.pointer (some ⟨bx, 0, none⟩)]] w
      fun e W' => ∃ v, e = .returned v ∧ W'.ownsRow w.heap.size 42 3 v xs.length (flatE pen xs) ∧ Below w.heap.size w W' := by
  have h1 : 1 ≤ n := by omega
  obtain ⟨i0, hi, hz0, hz1, hz2⟩ := info_parts Tryd.info_port
  refine callsIn_of_wp_marks Tryd.func35 rfl trivial ?_ rfl
  simp only [Tryd.ntmps35, List.size_toArray, List.length_cons, List.length_nil, Nat.reduceAdd, Nat.reduceSub, Array.replicate_succ, Array.replicate_zero, List.push_toArray, List.append_toArray, List.nil_append, List.cons_append]
  gi_wp2
  have bO := Boxed.new w 38 (.slice none 0 0)
  have hB0 : Below w.heap.size w (w.alloc (.cells #[.slice none 0 0] 38)) := (Below.refl _ w).alloc (Nat.le_refl _) _
  have hST := hst _ hB0
  have hsz : (w.alloc (.cells #[.slice none 0 0] 38)).heap.size = w.heap.size + 1 := by simp
  generalize w.alloc _ = W0 at bO hB0 hST hsz ⊢
  refine wpIn_rangeFunc_ownH rfl h1 (gf := 32) (lb := #[.pointer (some ⟨bx, 0, none⟩)]) rfl trivial (enters_of Tryd.func32 (by kernel_rfl) rfl)
    hST belowK_t (belowK_b (by omega)) (Below.refl _ _) (fun _ => rfl)
    (fun pre W => (∃ v, Boxed W w.heap.size 38 v ∧ W.ownsRow w.heap.size 42 3 v pre.length (flatE pen pre) ∧ True) ∧ Below w.heap.size w W)
    (fun _ _ _ => False)
    (OwnFrom.and (Own.from (holdsRow_own w.heap.size w.heap.size 38 42 3 (fun pre : List Pe => pre.length) (fun pre => flatE pen pre) (fun _ _ => True)) _) (ownFrom_below (Nat.le_refl _) (by omega)))
    (fun _ _ _ _ _ hs _ _ => hs)
    ⟨⟨_, bO, World.ownsRow_nil _ _ _ _, trivial⟩, hB0⟩
    (fun x a' W => ∃ Bx, w.heap.size < Bx ∧ Box3 W Bx x ∧ a' = { tmps := #[.slice none 0 0, .func (.func 32) #[] #[.pointer (some ⟨bx, 0, none⟩)], .pointer (some ⟨w.heap.size, 0, none⟩), undef, .slice none 0 0, .pointer (some ⟨Bx, 0, none⟩), .func (.func 32) #[] #[.pointer (some ⟨bx, 0, none⟩)], .agg #[.int .i64 x.num, .int .i64 x.mtu, .bool x.up], undef, undef, undef, undef, undef], defers := [] })
    (fun x a' _ X Y row hs hg hr => by obtain ⟨Bx, h1, h2, h3⟩ := hs; exact ⟨Bx, h1, box3_own Bx x () X Y row h2 hg (fun r e => (hr r e).2), h3⟩)
    ?assign ?body ?done ?stop
  case assign =>
    rintro l pre x W K ⟨⟨v, hv, hrow, -⟩, hB⟩ hK
    unfold encP
    gi_wp2
    exact hK _ _ ((KeepsOthers.alloc _ _).from _) ((Below.refl _ W).alloc (by have := hB.size; omega) _) ⟨⟨v, hv.alloc _, hrow.alloc _, trivial⟩, hB.alloc hB.size _⟩ ⟨W.heap.size, hv.lt, heap_alloc_new _ _, rfl⟩
  case body =>
    rintro l pre x a' W hl ⟨r, hr⟩ ⟨⟨v, hv, hrow, -⟩, hB⟩ ⟨Bx, hBx, bX, rfl⟩ hlt
    have hc := hv.cell
    obtain ⟨c, c0, c1, c2⟩ := box3_cells bX
    gi_wp2_with (gi_at_builtin; refine wpListIn_append_own _ rfl _ _ 38 rfl w.heap.size 42 i0 (.agg #[.int .i64 0, .int .i64 0, .bool false]) 3 24 Tryd.underlying38 hi hz0 hz1 hz2 rfl (by decide) _ _ _ rfl (hrow.alloc _) ⟨W.heap.size, 0, none⟩ 1 1 (pen x) rfl rfl (cells_new3 _ _) (pen_one x) (by unfold maxLen; omega) (by omega) (by have := hB.size; simp; omega) ?_; intro v' w1 hown' hgrow _; obtain ⟨g', cap', rfl⟩ := ownsRow_succ hown'; obtain ⟨hv1, hv2, hr2, hk2, hb2⟩ := hv.appended (by decide) hrow hB.size (Nat.le_refl _) hown' hgrow; have hc1 := hv1.cell; have hf1 := hv1.frozen)
    exact ⟨hk2.from _, hb2.mono hn₀, ⟨_, hv2, by rw [List.length_append, flatE_append, flatE_one]; exact hr2, trivial⟩, hB.trans hb2⟩
  case done =>
    rintro D ys W hD hys ⟨⟨v, hv, hrow, -⟩, hB⟩ hK
    obtain rfl : ys = xs := by rw [← hys]; simp
    clear hys
    have hc := hv.cell
    gi_wp2
    refine ⟨by simp, .inl ⟨_, _, rfl, run_takeDeferred hK, ?_⟩⟩
    exact ⟨_, results_tmp rfl _ _ _, v, rfl, ownsRow_putObj hrow _ hK rfl, hB.trans (belowK_b (w := w) (Nat.le_refl _) W D _ _ (by omega) hK rfl rfl)⟩
  case stop =>
    rintro D c pre W _ _ h _
    exact h.elim
end Go.Proofs.YtheggpklgeobkaaDoor
