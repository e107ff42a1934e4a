/-
  A region that draws its order, whose operations only read old memory and whose callees make memory: one walk of the text's order serves, over the class of all worlds that keep what lay ahead.
-/
import Derived.Test.YtheggpklgeobkaaDoorMem
import Derived.Deep.Quiet
import Derived.Deep.QuietTactic
import Derived.BigQuiet
import Derived.Deep.DeepBigQuietO
namespace Go.Proofs.YtheggpklgeobkaaDoor
open Go.RowKit

/-- the worlds that keep what lay below B in W -/
def Cls (B : Nat) (W : World) : Type := { w' : World // Below B W w' }
def Cls.w {B : Nat} {W : World} (x : Cls B W) : World := x.1
theorem Cls.bel {B : Nat} {W : World} (x : Cls B W) : Below B W x.w := x.2
theorem Cls.some (B : Nat) (W : World) : Nonempty (Cls B W) := ⟨⟨W, Below.refl _ _⟩⟩
theorem cls_of {P : Program} {f : FuncId} {args : Array Value} {B : Nat} {W : World} {v : Value} (x : Cls B W) (h : Calls P f args x.w fun e w' => e = .returned v ∧ Below x.w.heap.size x.w w') (hB : B ≤ W.heap.size) :
    Calls P f args x.w fun e w'' => e = .returned v ∧ ∃ y : Cls B W, w'' = y.w :=
  h.mono fun _ w' ⟨he, hb⟩ => ⟨he, ⟨w', x.bel.trans (hb.mono (Nat.le_trans hB x.bel.size))⟩, rfl⟩
theorem cls_same {P : Program} {f : FuncId} {args : Array Value} {B : Nat} {W : World} {v : Value} (x : Cls B W) (h : Calls P f args x.w fun e w' => e = .returned v ∧ w' = x.w) :
    Calls P f args x.w fun e w'' => e = .returned v ∧ ∃ y : Cls B W, w'' = y.w :=
  h.mono fun _ _ ⟨he, hb⟩ => ⟨he, x, hb⟩
theorem cls_same' {P : Program} {f : FuncId} {args : Array Value} {B : Nat} {W : World} {v : Value} (x : Cls B W) (h : Calls P f args x.w fun e w' => e = .returned v ∧ x.w = w') :
    Calls P f args x.w fun e w'' => e = .returned v ∧ ∃ y : Cls B W, w'' = y.w :=
  h.mono fun _ _ ⟨he, hb⟩ => ⟨he, x, hb.symm⟩
theorem wp_region_cls {P : Program} {id : Nat} {Q : Exit → Act → World → Prop} {a : Act} {w : World} {l : List Oper} (B : Nat) (hm : P.follows .mixedOrders = true) (hB : Region.lexB .any l.toArray = true)
    (h : wpQuiet P l.toArray (fun w' => ∃ x : Cls B w, w' = x.w) (fun a' => ∀ w', (∃ x : Cls B w, w' = x.w) → Q .normal a' w') l a) : (Code.region id l.toArray true).wp P Q a w :=
  wp_region_quiet (C := fun w' => ∃ x : Cls B w, w' = x.w) hm hB ⟨⟨w.drew, (Below.refl _ _).drew⟩, rfl⟩ (by simpa using h)
/-- .. over the world at hand -/
theorem wp_region_cls0 {P : Program} {id : Nat} {Q : Exit → Act → World → Prop} {a : Act} {w : World} {l : List Oper} (hm : P.follows .mixedOrders = true) (hB : Region.lexB .any l.toArray = true)
    (h : wpQuiet P l.toArray (fun w' => ∃ x : Cls w.heap.size w, w' = x.w) (fun a' => ∀ w', (∃ x : Cls w.heap.size w, w' = x.w) → Q .normal a' w') l a) : (Code.region id l.toArray true).wp P Q a w :=
  wp_region_cls w.heap.size hm hB h
end Go.Proofs.YtheggpklgeobkaaDoor
