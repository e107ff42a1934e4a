/-
  A builder of the call's own that a loop over an iterator writes: what is no cells stands.
-/
import Derived.Test.YtheggpklgeobkaaDoorDig
import Derived.Test.YtheggpklgeobkaaDoorShB
import Derived.Shelf.Strings.BuilderK
import Derived.RangeFuncBox
namespace Go.Proofs.YtheggpklgeobkaaDoor
open Go.RowKit Go.Shelf

abbrev TxtF (B : Nat) (l : List UInt8) (w : World) : Prop := Lib.IsBuilderF 65 5 B B (Lib.byteCells l) w
theorem TxtF.lt {B : Nat} {l : List UInt8} {w : World} (h : TxtF B l w) : B < w.heap.size := by
  rcases h with h | h <;> exact h.lt
theorem TxtF.cells {B : Nat} {l : List UInt8} {w : World} (h : TxtF B l w) : ∃ cs t m, w.heap[B]? = some (.cells cs t m) := by
  rcases h with ⟨_, v, h2, _⟩ | ⟨_, v, h2, _⟩ <;> exact ⟨_, _, _, h2⟩
theorem TxtF.kept {B : Nat} {l : List UInt8} {w w' : World} {row : Option Nat} (h : TxtF B l w) (hg : w.grownBy w' row) (hr : ∀ r, row = some r → ∃ o : Obj, w.heap[r]? = some o ∧ o.isCells = false) : TxtF B l w' := by
  have key : ∀ p, Lib.BuilderAtF 65 5 B B p (Lib.byteCells l) w → Lib.BuilderAtF 65 5 B B p (Lib.byteCells l) w' := by
    rintro p ⟨h1, v, h2, h3, h4⟩
    have hB : some B ≠ row := fun e => by obtain ⟨o, ho, hc⟩ := hr B e.symm; rw [h2] at ho; cases ho; cases hc
    refine ⟨h1, v, (hg.block B (Array.getElem?_eq_some_iff.1 h2).1 hB).trans h2, h3.kept hg ?_, h4⟩
    cases hv : v.ownBlock with
    | none =>
      rcases h3.2 with ⟨rfl, _⟩ | ⟨g, cap, cur, fz, rfl, _⟩
      · exact .inl rfl
      · simp [Value.ownBlock] at hv
    | some g =>
      refine .inr fun e => ?_
      obtain ⟨c, fz, hc⟩ := Lib.ownsRowF_kind h3 g hv
      obtain ⟨o, ho, hcc⟩ := hr g e.symm
      rw [hc] at ho; cases ho; cases hcc
  rcases h with h | h
  · exact .inl (key _ h)
  · exact .inr (key _ h)
theorem TxtF.below {B : Nat} {l : List UInt8} {w w' : World} (h : TxtF B l w) (hb : Below w.heap.size w w') : TxtF B l w' := h.kept (grown_of_below hb none) (fun r e => by cases e)
theorem TxtF.start (w : World) : TxtF w.heap.size [] (w.alloc (.cells #[.pointer none, .slice none 0 0] 65)) :=
  Lib.IsBuilderF.of (.inl ⟨Nat.le_refl _, .slice none 0 0, heap_alloc_new _ _, World.ownsRow_nil _ _ _ _, by simp [Value.ownBlock]⟩)
theorem keeps_of_below {w w' : World} (h : Below w.heap.size w w') : KeepsOthers w w' := ⟨h.size, fun k _ hk _ => (h.block k (Array.getElem?_eq_some_iff.1 hk).1).trans hk⟩
theorem txtF_write {B : Nat} {l : List UInt8} (s : List UInt8) {w : World} (h : TxtF B l w) (hlen : l.length + s.length ≤ 100000) (hBw : B ≤ w.heap.size) :
    Calls Tryd.prog 26 #[.pointer (some ⟨B, 0, none⟩), .string (txt s)] w fun e w' => e = .returned (.tuple #[.int .i64 s.length, .nilIface]) ∧ (TxtF B (l ++ s) w' ∧ Below B w w' ∧ KeepsOthers w w' ∧ Lib.OthersKept 5 (some B) w w') := by
  have := Any.Builder_WriteString_k handLaysn166 extra166 B B (Lib.byteCells l) (txt s) w h (by rw [Lib.byteCells_length, txt_size]; omega) hBw
  rw [txt_size] at this
  refine this.mono ?_
  rintro e w' ⟨he, h1, h2, h3⟩
  refine ⟨he, ?_, h2, ⟨h2.size, fun k _ hk ho => h3 k _ hk (fun e => ?_) (fun c fz e => ?_)⟩, h3⟩
  · rw [Lib.strCells_eq, txt_list, ← Lib.byteCells_append] at h1
    exact .inr h1
  · obtain ⟨cs, t, m, hc⟩ := h.cells
    cases e
    rw [hc] at hk; cases hk; cases ho
  · subst e; cases ho
theorem stringF_calls {B : Nat} {l : List UInt8} {w : World} (h : TxtF B l w) (hBw : B ≤ w.heap.size) :
    Calls Tryd.prog 28 #[.pointer (some ⟨B, 0, none⟩)] w fun e w' => e = .returned (.string (txt l)) ∧ (Below B w w' ∧ KeepsOthers w w') :=
  (Any.Builder_String_any_k handLaysn169 extra169 B B l w h hBw).mono fun e w' ⟨he, _, h2, h3⟩ => ⟨he, h2, h2.size, fun k o hk ho => h3 k o hk (fun e => by
    obtain ⟨cs, t, m, hc⟩ := h.cells
    cases e
    rw [hc] at hk; cases hk; cases ho) (fun c fz e => by subst e; cases ho)⟩
end Go.Proofs.YtheggpklgeobkaaDoor
