/-
  spf.dist: the memory that it keeps.
-/
import Derived.Test.YtmdcfiejkbhgpaaDij
import Derived.Test.YtmdcfiejkbhgpaaPq
import Derived.Test.YtmdcfiejkbhgpaaFromW
import Derived.Test.YtmdcfiejkbhgpaaRep
namespace Go.Proofs.Ytmdcfiejkbhgpaa
open Go.RowKit

theorem own_block {w w' : World} {base n : Nat} {e : TypeId} {size : Nat} {v : Value} {xs : List Value} (h : w.ownsRow base e size v n xs) (hb : ∀ g, v.ownBlock = some g → w'.heap[g]? = w.heap[g]?) : w'.ownsRow base e size v n xs := by
  refine ⟨h.1, ?_⟩
  rcases h.2 with h0 | ⟨g, cap, cur, rfl, hg, hc, r⟩
  · exact .inl h0
  · exact .inr ⟨g, cap, cur, rfl, hg, (hb g rfl).trans hc, r⟩
/-- the links of each node, all of it below E -/
structure FromK (w : World) (Bf E bm m : Nat) (l : List Lk) (V : Int → Value) : Prop where
  at_ : FromAt w Bf bm m l V
  lt : bm < E
  row : ∀ u g, (V u).ownBlock = some g → g < E
theorem FromK.kept {w w' : World} {Bf E bm m : Nat} {l : List Lk} {V : Int → Value} (h : FromK w Bf E bm m l V) (hk : ∀ k, Bf ≤ k → k < E → w'.heap[k]? = w.heap[k]?) : FromK w' Bf E bm m l V where
  at_ := { h.at_ with
    map := h.at_.map.block (hk bm h.at_.lo h.lt)
    row := fun u => own_block (h.at_.row u) (fun g hg => hk g (World.ownsRow.lt (h.at_.row u) g hg).1 (h.row u g hg)) }
  lt := h.lt
  row := h.row
/-- all that dist keeps: the row of costs, the links, who waits -/
structure DM (w0 : World) (l : List Lk) (N bd Bf E bm m : Nat) (V : Int → Value) (p : Nat) (w : World) (Z : Int → Int) (q : Wq) : Prop where
  row : RowZ w w0.heap.size bd N Z
  fr : FromK w Bf E bm m l V
  wt : WaitAt w E p q
  hp : IsHp q
  blw : Below w0.heap.size w0 w
  ord : bd < Bf ∧ Bf ≤ E ∧ E ≤ w.heap.size ∧ w0.heap.size ≤ bd
section
variable {w0 : World} {l : List Lk} {N bd Bf E bm m : Nat} {V : Int → Value} {p : Nat} {w w' : World} {Z : Int → Int} {q q' : Wq}
theorem DM.below (h : DM w0 l N bd Bf E bm m V p w Z q) (hb : Below w.heap.size w w') : DM w0 l N bd Bf E bm m V p w' Z q where
  row := h.row.below hb
  fr := h.fr.kept fun k _ hk => hb.block k (Nat.lt_of_lt_of_le hk h.ord.2.2.1)
  wt := h.wt.below hb
  hp := h.hp
  blw := h.blw.trans (hb.mono h.blw.size)
  ord := ⟨h.ord.1, h.ord.2.1, Nat.le_trans h.ord.2.2.1 hb.size, h.ord.2.2.2⟩
theorem DM.turn (h : DM w0 l N bd Bf E bm m V p w Z q) (hb : Below E w w') (hw : WaitAt w' E p q') (hh : IsHp q') : DM w0 l N bd Bf E bm m V p w' Z q' where
  row := own_block h.row fun g hg => by
    cases hg
    exact hb.block bd (by have := h.ord; omega)
  fr := h.fr.kept fun k _ hk => hb.block k hk
  wt := hw
  hp := hh
  blw := h.blw.trans (hb.mono (by have := h.ord; omega))
  ord := ⟨h.ord.1, h.ord.2.1, Nat.le_trans h.ord.2.2.1 hb.size, h.ord.2.2.2⟩
theorem DM.tell (h : DM w0 l N bd Bf E bm m V p w Z q) (u : Nat) (c : Int) : DM w0 l N bd Bf E bm m V p (w.setCell ⟨bd, u, none⟩ (.int .i64 c)) (updZ Z (u : Int) c) q where
  row := h.row.set u c
  fr := h.fr.kept fun k hk _ => heap_setCell_other _ _ _ _ (by have := h.ord; simp only; omega)
  wt := by
    obtain ⟨hp, g, cap, hne, hbl, hr⟩ := h.wt
    have ho := h.ord
    refine ⟨hp, g, cap, hne, (heap_setCell_other _ _ _ _ (by simp only; omega)).trans hbl, own_block hr fun g' hg => ?_⟩
    cases hg
    have := (World.ownsRow.lt hr g rfl).1
    exact heap_setCell_other _ _ _ _ (by simp only; omega)
  hp := h.hp
  blw := h.blw.setCell (p := ⟨bd, u, none⟩) h.ord.2.2.2 _
  ord := ⟨h.ord.1, h.ord.2.1, by simpa using h.ord.2.2.1, h.ord.2.2.2⟩
end
/-- what is known of who waits -/
def DK (n : Int) (l : List Lk) (s : Int) (Z : Int → Int) (q : Wq) (pend : List Lk) : Prop := DInv n l s Z q pend ∧ q.length + pend.length ≤ 1 + 1000 * cntZ Z (nodes n)
theorem DK.few {n : Int} {l : List Lk} {s : Int} {Z : Int → Int} {q : Wq} {pend : List Lk} (h : DK n l s Z q pend) (hn : n ≤ 64) : q.length ≤ 64001 := by
  have h1 := h.2
  have h2 := cntZ_le Z (nodes n)
  rw [nodes_len] at h2
  omega
/-- who waits first of all -/
theorem wait_start (w : World) (s : Int) : WaitAt ((w.alloc (.cells #[.int .i64 s, .int .i64 0] 88)).alloc (.cells #[.slice (some ⟨w.heap.size, 0, none⟩) 1 1] 90)) w.heap.size (w.heap.size + 1) [(s, 0)] := by
  have h1 : (w.alloc (.cells #[.int .i64 s, .int .i64 0] 88)).heap[w.heap.size]? = some (.cells #[.int .i64 s, .int .i64 0] 88 (0, 0)) := heap_alloc_new _ _
  refine ⟨by omega, w.heap.size, 1, by omega, ?_, ?_⟩
  · have := heap_alloc_new (w.alloc (.cells #[.int .i64 s, .int .i64 0] 88)) (.cells #[.slice (some ⟨w.heap.size, 0, none⟩) 1 1] 90)
    simpa using this
  · refine own_below ?_ (below_al1 _ _)
    exact ⟨rfl, .inr ⟨w.heap.size, 1, _, rfl, Nat.le_refl _, h1, Nat.le_refl _, by unfold maxLen; omega, rfl, rfl⟩⟩
/-- how much is left to be done -/
def lenOf (w : World) (p : Nat) : Nat := match w.cell? ⟨p, 0, none⟩ with | some (.slice _ n _) => n | _ => 0
def leftD (n : Int) (bd p : Nat) (w : World) : Nat := (64 - cntZ (zOf w bd) (nodes n)) * 1001 + lenOf w p
theorem cntZ_congr {Z Y : Int → Int} {r : List Int} (h : ∀ v ∈ r, Z v = Y v) : cntZ Z r = cntZ Y r := by
  unfold cntZ
  refine List.countP_congr fun v hv => ?_
  rw [h v hv]
theorem leftD_eq {w0 : World} {n : Int} {l : List Lk} {N bd Bf E bm m : Nat} {V : Int → Value} {p : Nat} {w : World} {Z : Int → Int} {q : Wq} (h : DM w0 l N bd Bf E bm m V p w Z q) (hn : n = N) :
    leftD n bd p w = (64 - cntZ Z (nodes n)) * 1001 + q.length := by
  obtain ⟨_, g, cap, _, hc, _⟩ := h.wt.cell
  unfold leftD lenOf
  rw [hc]
  have e : cntZ (zOf w bd) (nodes n) = cntZ Z (nodes n) := cntZ_congr fun v hv => by
    have h1 := mem_nodes.1 hv
    have h2 := h.row.cell (i := v.toNat) (by omega)
    unfold zOf
    rw [h2]
    simp only
    congr 1
    omega
  rw [e]
/-- the box of a pair -/
def BoxR (W : World) (b : Nat) (u c : Int) : Prop := W.heap[b]? = some (.cells #[.int .i64 u, .int .i64 c] 88 (0, 0))
theorem BoxR.cells {W : World} {b : Nat} {u c : Int} (h : BoxR W b u c) : b < W.heap.size ∧ W.cell? ⟨b, 0, none⟩ = some (.int .i64 u) ∧ W.cell? ⟨b, 1, none⟩ = some (.int .i64 c) := by
  have h' : W.heap[b]? = _ := h
  refine ⟨(Array.getElem?_eq_some_iff.1 h').1, ?_, ?_⟩
  · rw [cell_of_row _ _ _ _ _ (0, 0) h']; rfl
  · rw [cell_of_row _ _ _ _ _ (0, 0) h']; rfl
theorem BoxR.set {W : World} {b bd k : Nat} {u c x : Int} (h : BoxR W b u x) (hne : bd ≠ b) : BoxR (W.setCell ⟨bd, k, none⟩ (.int .i64 c)) b u x :=
  (heap_setCell_other _ _ _ _ (fun e => hne e.symm)).trans h
theorem BoxR.below {W W' : World} {b : Nat} {u c : Int} (h : BoxR W b u c) (hb : Below W.heap.size W W') : BoxR W' b u c :=
  (hb.block b h.cells.1).trans h
theorem OffW.below {W W' : World} {p X : Nat} (h : OffW W p X) (hp : p < W.heap.size) (hb : Below W.heap.size W W') : OffW W' p X :=
  ⟨h.1, Nat.lt_of_lt_of_le h.2.1 hb.size, fun g n c hc => h.2.2 g n c (by rw [← hc]; exact (hb.cell hp).symm)⟩
theorem DM.off {w0 : World} {l : List Lk} {N bd Bf E bm m : Nat} {V : Int → Value} {p : Nat} {w : World} {Z : Int → Int} {q : Wq} (h : DM w0 l N bd Bf E bm m V p w Z q) (k : Nat) (cu : Int) :
    OffW ((w.alloc (.cells #[.int .i64 (k : Int), .int .i64 cu] 88)).setCell ⟨bd, k, none⟩ (.int .i64 cu)) p w.heap.size := by
  obtain ⟨hEp, g, cap, hne, hc, hf, hbl, hrow, hEg, hgs, hps⟩ := h.wt.cell
  have ho := h.ord
  refine ⟨by omega, by simp, fun g2 n c h2 => ?_⟩
  have e : ((w.alloc (.cells #[.int .i64 (k : Int), .int .i64 cu] 88)).setCell ⟨bd, k, none⟩ (.int .i64 cu)).cell? ⟨p, 0, none⟩ = w.cell? ⟨p, 0, none⟩ := by
    have e1 : ((w.alloc (.cells #[.int .i64 (k : Int), .int .i64 cu] 88)).setCell ⟨bd, k, none⟩ (.int .i64 cu)).heap[p]? = w.heap[p]? :=
      (heap_setCell_other _ _ _ _ (by simp only; omega)).trans ((below_al1 w _).block p hps)
    simp only [World.cell?, e1]
  rw [e, hc] at h2
  cases h2
  omega
end Go.Proofs.Ytmdcfiejkbhgpaa
