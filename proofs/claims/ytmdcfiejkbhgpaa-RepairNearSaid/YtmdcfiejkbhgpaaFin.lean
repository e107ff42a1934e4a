/-
  spf.next: the next nodes, where the least costs to the end are known.
-/
import Derived.Test.YtmdcfiejkbhgpaaBack
import Derived.Test.YtmdcfiejkbhgpaaRPath
namespace Go.Proofs.Ytmdcfiejkbhgpaa
open Go.RowKit

/-- is the link's end a next node behind a? -/
noncomputable def linkN (l : List Lk) (t a : Int) (x : Lk) : Bool := (x.f == a) && (decide (D l a t > 0) && ((D l x.t t != -1) && (x.c + D l x.t t == D l a t)))
noncomputable def endsN (l : List Lk) (t a : Int) (k : Nat) : List Int := ((l.take k).filter (linkN l t a)).map (·.t)
theorem endsN_step {l : List Lk} {t a : Int} {k : Nat} {x : Lk} (hx : l[k]? = some x) : endsN l t a (k + 1) = endsN l t a k ++ (if linkN l t a x = true then [x.t] else []) := by
  unfold endsN
  rw [List.take_add_one, hx, List.filter_append, List.map_append]
  congr 1
  by_cases h : linkN l t a x = true <;> simp [h]
theorem endsN_len (l : List Lk) (t a : Int) (k : Nat) : (endsN l t a k).length ≤ k := by
  unfold endsN
  rw [List.length_map]
  have h1 := List.length_filter_le (linkN l t a) (l.take k)
  have h2 : (l.take k).length ≤ k := by rw [List.length_take]; omega
  omega
theorem sortI_endsN {n : Int} {l : List Lk} (h : GOk n l) {t a : Int} {k : Nat} (hk : l.length ≤ k) : sortI (endsN l t a k) = nexts n l a t := by
  have hp := List.mergeSort_perm (endsN l t a k) (fun x y => decide (x ≤ y))
  have he : endsN l t a k = (l.filter (linkN l t a)).map (·.t) := by unfold endsN; rw [List.take_of_length_le hk]
  have hnd : (endsN l t a k).Nodup := by
    rw [he]
    unfold List.Nodup
    rw [List.pairwise_map]
    have hu := h.uniq.filter (linkN l t a)
    refine hu.imp_of_mem fun {x y} hx hy hne e => hne ⟨?_, e⟩
    have h1 := (List.mem_filter.1 hx).2
    have h2 := (List.mem_filter.1 hy).2
    unfold linkN at h1 h2
    simp only [Bool.and_eq_true, beq_iff_eq] at h1 h2
    rw [h1.1, h2.1]
  refine sorted_ext ?_ (nexts_sorted n l a t) fun x => ?_
  · have hs : (sortI (endsN l t a k)).Pairwise (fun x y => decide (x ≤ y) = true) := List.pairwise_mergeSort (by intro a b c; simp; omega) (by intro a b; simp; omega) _
    have hn : (sortI (endsN l t a k)).Nodup := hp.nodup_iff.2 hnd
    refine (hs.and hn).imp fun {x y} hxy => ?_
    have h1 := hxy.1
    have h2 := hxy.2
    simp at h1
    omega
  · rw [mem_nexts h]
    unfold sortI
    rw [hp.mem_iff, he]
    simp only [List.mem_map, List.mem_filter]
    unfold linkN nextTo
    simp only [Bool.and_eq_true, beq_iff_eq, decide_eq_true_eq, bne_iff_ne, ne_eq]
    constructor
    · rintro ⟨⟨f, u, c⟩, ⟨hm, h1, h2, h3, h4⟩, rfl⟩
      simp only at *
      subst h1
      have := D_ge h.pos u t
      exact ⟨by omega, c, hm, by omega, h4⟩
    · rintro ⟨h1, c, hm, h2, h3⟩
      exact ⟨⟨a, x, c⟩, ⟨hm, rfl, by omega, by simp only; omega, h3⟩, rfl⟩
end Go.Proofs.Ytmdcfiejkbhgpaa
