/-
  A row of numbers that grows.
-/
import Derived.Test.YtmdcfiejkbhgpaaRUses
import Derived.Laws.AppendOwnNone
import Derived.OwnWalk
namespace Go.Proofs.Ytmdcfiejkbhgpaa
open Go.RowKit

def ints (l : List Int) : List Value := l.map fun z => Value.int .i64 z
/-- v is a row of these numbers, from B on -/
def IntsAt (w : World) (B : Nat) (v : Value) (l : List Int) : Prop := w.ownsRow B 3 1 v l.length (ints l)
theorem intsAt_nil (w : World) (B : Nat) : IntsAt w B (.slice none 0 0) [] := World.ownsRow_nil _ _ _ _
theorem IntsAt.below {w w' : World} {B : Nat} {v : Value} {l : List Int} (h : IntsAt w B v l) (hb : Below w.heap.size w w') : IntsAt w' B v l := own_below h hb
theorem intsAt_app {w0 w w' : World} {v : Value} {l : List Int} (hb : Below w0.heap.size w0 w) (hown : IntsAt w w0.heap.size v l) (hg : w.grownBy w' v.ownBlock) : Below w0.heap.size w0 w' := hb.grown hg hb.size (fun k hk => (hown.lt k hk).1)
theorem below_al1 (w : World) (o : Obj) : Below w.heap.size w (w.alloc o) := by go_grown
theorem one_int (w : World) (z : Int) : ∀ j u, [Value.int .i64 z][j]? = some u → (w.alloc (.cells #[.int .i64 z] 3)).cell? ((⟨w.heap.size, 0, none⟩ : Addr).add j) = some u := new_cells w [.int .i64 z] 3

/-- a number put behind a row of the call's own -/
theorem app_int {ops : Array Oper} {rest : List Oper} {o : Oper} {a : Act} {w : World} {Q : Exit → Act → World → Prop} (hgd : o.guard = none) (s x : Operand)
    (ho : o.op = .call { callee := .builtin .append, args := #[s, x], argTypes := #[29, 29] })
    (B : Nat) (v : Value) (l : List Int) (z : Int) (hs : a.eval s = v) (hown : IntsAt w B v l) (b : Nat) (hx : a.eval x = .slice (some ⟨b, 0, none⟩) 1 1) (hr : ∀ j u, [Value.int .i64 z][j]? = some u → w.cell? ((⟨b, 0, none⟩ : Addr).add j) = some u)
    (hsz : l.length ≤ 1000000) (hB : B ≤ w.heap.size)
    (h : ∀ v' w', IntsAt w' B v' (l ++ [z]) → w.grownBy w' v.ownBlock → wpList Try.prog ops Q rest (a.put o.dst v') w') : wpList Try.prog ops Q (o :: rest) a w := by
  obtain ⟨i0, hi, hz0, hz1, hz2⟩ := info_parts Try.info_int
  refine wpList_append_own_at w hgd s x 29 ho B 3 i0 (.int .i64 0) 1 8 Try.underlying29 hi hz0 hz1 hz2 rfl (by decide) v _ _ hs hown ⟨b, 0, none⟩ 1 1 [.int .i64 z] hx rfl hr ?_ (by unfold maxLen; omega) (by omega) hB ?_
  · intro u hu
    simp at hu; subst hu; rfl
  · intro v' w' hown' hg _ _
    refine h v' w' ?_ hg
    unfold IntsAt ints
    rw [List.map_append, List.length_append]
    exact hown'
end Go.Proofs.Ytmdcfiejkbhgpaa
