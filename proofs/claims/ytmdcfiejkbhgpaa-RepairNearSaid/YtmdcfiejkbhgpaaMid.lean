/-
  Words on memory, more: a struct is stored into an element of a row of the call's own.
-/
import Derived.Test.YtmdcfiejkbhgpaaMem
import Derived.Deep.MidRow
namespace Go.Proofs.Ytmdcfiejkbhgpaa
open Go.RowKit

theorem grown_set1 (w : World) (g j : Nat) (u : Value) : w.grownBy (w.setCell ⟨g, j, none⟩ u) (some g) :=
  ⟨rfl, rfl, rfl, by simp, fun k _ hk => heap_setCell_other w ⟨g, j, none⟩ k u (fun e => hk (by simp [e]))⟩
theorem own_setCells {base size n cap g : Nat} {e : TypeId} : ∀ (vs : List Value) (o : Nat) {w : World} {xs : List Value}, w.ownsRow base e size (.slice (some ⟨g, 0, none⟩) n cap) n xs →
    (w.setCells g o vs).ownsRow base e size (.slice (some ⟨g, 0, none⟩) n cap) n (setAll xs o vs)
  | [], _, _, _, h => h
  | v :: vs, o, _, _, h => own_setCells vs (o + 1) (h.stored o v).1
theorem grown_setCells {g : Nat} : ∀ (vs : List Value) (o : Nat) (w : World), w.grownBy (w.setCells g o vs) (some g)
  | [], _, _ => ⟨rfl, rfl, rfl, Nat.le_refl _, fun _ _ _ => rfl⟩
  | v :: vs, o, w => grown_trans (grown_set1 w g o v) (grown_setCells vs (o + 1) _)

/-- a struct goes into an element of a row of the call's own -/
theorem wpList_store_elem {α : Type} {enc : α → List Value} {k : Nat} (hk : ∀ x, (enc x).length = k) (hone : ∀ x, ∀ u ∈ enc x, u.oneCell' = true) {P : Program} {ops : Array Oper} {rest : List Oper} {op : Oper} {a : Act} {w : World} {Q : Exit → Act → World → Prop}
    (hgd : op.guard = none) (ty : TypeId) (x y : Operand) (ho : op.op = .store ty x y) (hi : (P.info? ty).map (·.size) = some k)
    {base e g n cap : Nat} {l : List α} (hown : w.ownsRow base e k (.slice (some ⟨g, 0, none⟩) n cap) n (flatE enc l)) (i : Nat) (hil : i < l.length) (z : α)
    (hx : a.eval x = .pointer (some ⟨g, i * k, none⟩)) (hy : a.eval y = .agg (enc z).toArray)
    (h : ∀ w', w'.ownsRow base e k (.slice (some ⟨g, 0, none⟩) n cap) n (flatE enc (l.set i z)) → w.grownBy w' (some g) → wpList P ops Q rest (a.put op.dst undef) w') : wpList P ops Q (op :: rest) a w := by
  have hlt : i * k + k ≤ (flatE enc l).length := by
    rw [flatE_length hk]
    have := Nat.mul_le_mul_right k (show i + 1 ≤ l.length by omega)
    rw [Nat.add_mul] at this
    omega
  refine wpList_store_mid hgd ty x y ho g (i * k) (enc z).toArray hx hy (fun j hj => ⟨?_, hown.frozenAt _⟩) (by simpa [hk] using hi) (all_oneCell_toArray (hone z)) (h _ ?_ (grown_setCells _ _ _))
  · have hj' : j < k := by simpa [hk] using hj
    have h2 := hlt
    rw [hown.1] at h2
    rw [hown.cellAt _ (by omega), List.getElem?_eq_getElem (by omega)]
    rfl
  · rw [flatE_set hk l i z hil]
    exact own_setCells _ _ hown

end Go.Proofs.Ytmdcfiejkbhgpaa
