/-
  Words on memory that all walks of this seat use: what was there stays; a slice of ways reads as a list; the first place at which a test holds.
-/
import Derived.Test.YtepbchgjnhnhjaaProg
import Derived.WalkKit
import Derived.WalkLawsBesides
import Derived.WalkSpells
import Derived.Handy
import Derived.Lib.Hide
import Derived.Test.YtepbchgjnhnhjaaPlain
namespace Go.Proofs.Ytepbchgjnhnhjaa
open Go.RowKit

theorem ret_bool {a b : Bool} (h : a = b) : Ending.returned (.bool a) = Ending.returned (.bool b) := by rw [h]
theorem ret_int {k : IntKind} {a b : Int} (h : a = b) : Ending.returned (.int k a) = Ending.returned (.int k b) := by rw [h]

/-- a slice of ways (two cells each) reads as a list -/
def Ways (w : World) (A : Option Addr) (n : Nat) (l : List (Int × Int)) : Prop :=
  l.length = n ∧ ∀ i x, l[i]? = some x → ∃ b off, A = some ⟨b, off, none⟩ ∧ w.cell? ⟨b, off + i * 2, none⟩ = some (.int .i64 x.1) ∧ w.cell? ⟨b, off + i * 2 + 1, none⟩ = some (.int .i64 x.2)

theorem Ways.below {w w' : World} {A : Option Addr} {n : Nat} {l : List (Int × Int)} (h : Ways w A n l) (hb : Below w.heap.size w w') : Ways w' A n l :=
  ⟨h.1, fun i x hx => by
    obtain ⟨b, off, hA, h0, h1⟩ := h.2 i x hx
    exact ⟨b, off, hA, (hb.cell (World.block_lt_of_cell? w _ h0)).trans h0, (hb.cell (World.block_lt_of_cell? w _ h1)).trans h1⟩⟩

theorem Ways.take {w : World} {A : Option Addr} {n k : Nat} {l : List (Int × Int)} (h : Ways w A n l) (hk : k ≤ n) : Ways w A k (l.take k) :=
  ⟨by rw [List.length_take, h.1]; omega, fun i x hx => by
    rw [List.getElem?_take] at hx
    split at hx
    · exact h.2 i x hx
    · cases hx⟩

theorem Ways.at_ {w : World} {A : Option Addr} {n i : Nat} {l : List (Int × Int)} (h : Ways w A n l) (hi : i < n) :
    ∃ x b off, l[i]? = some x ∧ A = some ⟨b, off, none⟩ ∧ w.cell? ⟨b, off + i * 2, none⟩ = some (.int .i64 x.1) ∧ w.cell? ⟨b, off + i * 2 + 1, none⟩ = some (.int .i64 x.2) := by
  have hl : i < l.length := by rw [h.1]; exact hi
  obtain ⟨b, off, h1, h2⟩ := h.2 i l[i] (List.getElem?_eq_getElem hl)
  exact ⟨l[i], b, off, List.getElem?_eq_getElem hl, h1, h2⟩

end Go.Proofs.Ytepbchgjnhnhjaa
