/-
  awake: the document's examples.
-/
import Derived.Test.YtdnjgknnckoagaaDoorRParse
namespace Go.Proofs.YtdnjgknnckoagaaDoor
open Go.RowKit

theorem aw1 : outP (parseP [49, 57, 50, 46, 48, 46, 50, 46, 49]) = .tuple #[.agg #[.int .u8 192, .int .u8 0, .int .u8 2, .int .u8 1], .bool true] := by kernel_rfl
theorem aw2 : outP (parseP [49, 57, 50, 46, 48, 46, 50, 46, 48, 49]) = .tuple #[.agg #[.int .u8 0, .int .u8 0, .int .u8 0, .int .u8 0], .bool false] := by kernel_rfl
theorem aw3 : txt (showA 192 0 2 1) = ⟨#[49, 57, 50, 46, 48, 46, 50, 46, 49]⟩ := by
  rw [show showA 192 0 2 1 = [49, 57, 50, 46, 48, 46, 50, 46, 49] by decide +kernel]; rfl

/-- four bytes in a block -/
structure Four (w : World) (B : Nat) (a b c d : Int) : Prop where
  lt : B < w.heap.size
  c0 : w.cell? ⟨B, 0, none⟩ = some (.int .u8 a)
  c1 : w.cell? ⟨B, 1, none⟩ = some (.int .u8 b)
  c2 : w.cell? ⟨B, 2, none⟩ = some (.int .u8 c)
  c3 : w.cell? ⟨B, 3, none⟩ = some (.int .u8 d)
theorem Four.below {w w' : World} {B : Nat} {a b c d : Int} (h : Four w B a b c d) (hb : Below w.heap.size w w') : Four w' B a b c d :=
  ⟨Nat.lt_of_lt_of_le h.lt hb.size, (hb.cell (p := ⟨B, 0, none⟩) h.lt).trans h.c0, (hb.cell (p := ⟨B, 1, none⟩) h.lt).trans h.c1, (hb.cell (p := ⟨B, 2, none⟩) h.lt).trans h.c2, (hb.cell (p := ⟨B, 3, none⟩) h.lt).trans h.c3⟩
theorem Four.of_row {w : World} {B : Nat} {a b c d : Int} {t : TypeId} {m : Nat × Nat} (h : w.heap[B]? = some (.cells #[.int .u8 a, .int .u8 b, .int .u8 c, .int .u8 d] t m)) : Four w B a b c d :=
  ⟨(Array.getElem?_eq_some_iff.1 h).1, by rw [cell_of_row _ _ _ _ _ m h]; rfl, by rw [cell_of_row _ _ _ _ _ m h]; rfl, by rw [cell_of_row _ _ _ _ _ m h]; rfl, by rw [cell_of_row _ _ _ _ _ m h]; rfl⟩
theorem Four.new (w : World) (a b c d : Int) : Four (w.alloc (.cells #[.int .u8 a, .int .u8 b, .int .u8 c, .int .u8 d] 22)) w.heap.size a b c d := Four.of_row (heap_alloc_new _ _)
theorem below_new (w : World) (o : Obj) : Below w.heap.size w (w.alloc o) := by go_grown

set_option maxRecDepth 100000 in
set_option maxHeartbeats 4000000 in
theorem awake_any (w : World) (ht : Tab w) : Calls Tryd.prog 7 #[] w fun e w' => e = .returned (.bool true) ∧ Below w.heap.size w w' := by
  have HTAB := Lib.hid ht
  have H1 := Lib.hid (fun w => parse_any ⟨#[49, 57, 50, 46, 48, 46, 50, 46, 49]⟩ (by decide) w)
  have H2 := Lib.hid (fun w => parse_any ⟨#[49, 57, 50, 46, 48, 46, 50, 46, 48, 49]⟩ (by decide) w)
  have H3 := Lib.hid (fun w (h : Tab w) => show_any (a := 192) (b := 0) (c := 2) (d := 1) ⟨by decide, by decide⟩ ⟨by decide, by decide⟩ ⟨by decide, by decide⟩ ⟨by decide, by decide⟩ w h)
  have H4 := Lib.hid (fun w => multi_any 192 0 2 1 (by decide) (by decide) w)
  have H5 := Lib.hid (fun w => plain_any 192 0 2 1 (by decide) (by decide) w)
  have H6 := Lib.hid (fun w => multi_any 224 0 0 1 (by decide) (by decide) w)
  clear ht
  unfold av at *
  go_enter Tryd.func7, Tryd.ntmps7
  go_wp2_with fail
  refine (H1.out _).mono ?_
  rintro e w1 ⟨rfl, hb1⟩
  have HB1 := Lib.hid hb1
  clear hb1 H1
  rw [show outP (parseP (⟨#[49, 57, 50, 46, 48, 46, 50, 46, 49]⟩ : ByteArray).data.toList) = _ from aw1]
  go_wp2_with fail
  have HF1 := Lib.hid (Four.new w1 192 0 2 1)
  have HB2 := Lib.hid (HB1.out.trans ((below_new w1 (.cells #[.int .u8 192, .int .u8 0, .int .u8 2, .int .u8 1] 22)).mono HB1.out.size))
  generalize hw : World.alloc _ _ = w2 at HF1 HB2 ⊢
  clear hw
  refine (H2.out _).mono ?_
  rintro e w3 ⟨rfl, hb3⟩
  have HF3 := Lib.hid (HF1.out.below hb3)
  have HB3 := Lib.hid (HB2.out.trans (hb3.mono HB2.out.size))
  clear hb3 HF1 HB1 HB2 H2
  rw [show outP (parseP (⟨#[49, 57, 50, 46, 48, 46, 50, 46, 48, 49]⟩ : ByteArray).data.toList) = _ from aw2]
  have q := HF3.out.lt
  have q0 := HF3.out.c0
  have q1 := HF3.out.c1
  have q2 := HF3.out.c2
  have q3 := HF3.out.c3
  have hsame : sameB 192 0 2 1 192 0 2 1 = true := by decide
  go_wp2_with fail
  have HB4 := Lib.hid (HB3.out.trans ((below_new w3 (.cells #[.int .u8 0, .int .u8 0, .int .u8 0, .int .u8 0] 22)).mono HB3.out.size))
  have HF4 := Lib.hid (HF3.out.below (below_new w3 (.cells #[.int .u8 0, .int .u8 0, .int .u8 0, .int .u8 0] 22)))
  generalize hw : World.alloc _ _ = w4 at HB4 HF4 ⊢
  clear hw HF3 HB3 q q0 q1 q2 q3
  refine (H3.out _ (HTAB.out.below HB4.out)).mono ?_
  rintro e w5 ⟨rfl, hb5⟩
  have HF5 := Lib.hid (HF4.out.below hb5)
  have HB5 := Lib.hid (HB4.out.trans (hb5.mono HB4.out.size))
  clear hb5 HF4 HB4 H3
  rw [aw3]
  have q := HF5.out.lt
  have q0 := HF5.out.c0
  have q1 := HF5.out.c1
  have q2 := HF5.out.c2
  have q3 := HF5.out.c3
  go_wp2_with fail
  refine (H4.out _).mono ?_
  rintro e w6 ⟨rfl, hb6⟩
  have HF6 := Lib.hid (HF5.out.below hb6)
  have HB6 := Lib.hid (HB5.out.trans (hb6.mono HB5.out.size))
  clear hb6 HF5 HB5 H4 q q0 q1 q2 q3
  rw [show multiB 192 0 2 1 = false by decide]
  have q := HF6.out.lt
  have q0 := HF6.out.c0
  have q1 := HF6.out.c1
  have q2 := HF6.out.c2
  have q3 := HF6.out.c3
  go_wp2_with fail
  refine (H5.out _).mono ?_
  rintro e w7 ⟨rfl, hb7⟩
  have HF7 := Lib.hid (HF6.out.below hb7)
  have HB7 := Lib.hid (HB6.out.trans (hb7.mono HB6.out.size))
  clear hb7 HF6 HB6 H5 q q0 q1 q2 q3
  rw [show plainB 192 = true by decide]
  go_wp2_with fail
  refine (H6.out _).mono ?_
  rintro e w8 ⟨rfl, hb8⟩
  have HB8 := Lib.hid (HB7.out.trans (hb8.mono HB7.out.size))
  clear hb8
  rw [show multiB 224 0 0 1 = true by decide]
  go_wp2_with fail
  go_ret
  exact ⟨rfl, HB8.out⟩
end Go.Proofs.YtdnjgknnckoagaaDoor
