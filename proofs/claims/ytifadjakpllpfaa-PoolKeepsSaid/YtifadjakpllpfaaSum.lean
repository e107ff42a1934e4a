/-
  The pool's Sum: a closure is deferred that recovers; what is no number ends the sum by a panic.
-/
import Derived.Test.YtifadjakpllpfaaApi
import Derived.Recover
namespace Go.Proofs.Ytifadjakpllpfaa
open Go.RowKit

/-- an assertion that fails panics: a new error is laid -/
@[go_sem] theorem bad_nil (w : World) : (Instr.typeAssert .nilIface 20 3 false).run Try.prog w = .halt (.panic (.iface 15 (.pointer (some ⟨w.heap.size, 0, none⟩)))) (w.alloc (.cells #[typeHandle Try.prog 20, .pointer none, typeHandle Try.prog 3, strVal ""] 87)) := by kernel_rfl
@[go_sem] theorem bad_str (v : Value) (w : World) : (Instr.typeAssert (.iface 9 v) 20 3 false).run Try.prog w = .halt (.panic (.iface 15 (.pointer (some ⟨w.heap.size, 0, none⟩)))) (w.alloc (.cells #[typeHandle Try.prog 20, typeHandle Try.prog 9, typeHandle Try.prog 3, strVal ""] 87)) := by kernel_rfl
@[go_sem] theorem bad_hop (v : Value) (w : World) : (Instr.typeAssert (.iface 35 v) 20 3 false).run Try.prog w = .halt (.panic (.iface 15 (.pointer (some ⟨w.heap.size, 0, none⟩)))) (w.alloc (.cells #[typeHandle Try.prog 20, typeHandle Try.prog 35, typeHandle Try.prog 3, strVal ""] 87)) := by kernel_rfl
@[go_sem] theorem good_int (v : Value) (w : World) : (Instr.typeAssert (.iface 3 v) 20 3 false).run Try.prog w = .ok v w := by kernel_rfl

/-- the sum of numbers; none: one of them is no number -/
def sumW (f : Int → Form) : Int → List Int → Option Int
  | acc, [] => some acc
  | acc, id :: r => if (f id).kind = 1 then sumW f (wrap64 (acc + (f id).int)) r else none
theorem sumW_snoc (f : Int → Form) (l : List Int) : ∀ (acc : Int) (id : Int), sumW f acc (l ++ [id]) = (sumW f acc l).bind fun s => if (f id).kind = 1 then some (wrap64 (s + (f id).int)) else none := by
  induction l with
  | nil => intro acc id; simp [sumW]
  | cons x l ih =>
    intro acc id
    simp only [List.cons_append, sumW]
    split
    · exact ih _ _
    · rfl
theorem sumW_none (f : Int → Form) (l m : List Int) : ∀ (acc : Int), sumW f acc l = none → sumW f acc (l ++ m) = none := by
  induction l with
  | nil => intro acc h; simp [sumW] at h
  | cons x l ih =>
    intro acc h
    simp only [List.cons_append, sumW] at h ⊢
    split
    · rename_i hx; rw [if_pos hx] at h; exact ih _ h
    · rfl

theorem catch_panicking (p q : Addr) (x : Int) (b : Bool) (u : TypeId) (pv : Value) (older : List PanicEntry) (w : World) (hc : w.cell? p = some (.int .i64 x)) (hz : w.frozen? p = false) (hc2 : w.cell? q = some (.bool b)) (hz2 : w.frozen? q = false) (hne : ¬ p = q) :
    CallsD Try.prog 33 #[.pointer (some p), .pointer (some q)] (.panicking ({ v := .iface u pv, recovered := false } :: older)) w fun e u' w' =>
      e = .returned (.tuple #[]) ∧ u' = .panicking ({ v := .iface u pv, recovered := true } :: older) ∧ w' = (w.setCell p (.int .i64 0)).setCell q (.bool false) := by
  have hc3 : (w.setCell p (.int .i64 0)).cell? q = some (.bool b) := by rw [World.cell?_setCell_other _ _ _ _ (by simpa using hne)]; exact hc2
  refine callsD_of_wpS Try.func33 rfl fun c₀ cs hu => ?_
  apply wpS_seq
  apply wpS_region
  simp [wpOpsS, go_sem, recoverD, hu, Try.ntmps33, Exit.thenS]
  refine wpS_cond (t := true) (by simp [Act.eval, Array.replicate]) ?_
  simp only [if_true]
  apply wpS_region
  simp [wpOpsS, go_sem, hc, hz, hc3, hz2, bodyPostS, results, Try.results33]

theorem catch_idle (p q : Addr) (w : World) :
    CallsD Try.prog 33 #[.pointer (some p), .pointer (some q)] .returning w fun e u' w' => e = .returned (.tuple #[]) ∧ u' = .returning ∧ w' = w := by
  refine callsD_of_wpS Try.func33 rfl fun c₀ cs hu => ?_
  apply wpS_seq
  apply wpS_region
  simp [wpOpsS, go_sem, recoverD, hu, Try.ntmps33, Exit.thenS]
  refine wpS_cond (t := false) (by simp [Act.eval, Array.replicate]) ?_
  simp only [Bool.false_eq_true, if_false]
  refine wpS_of_wp (wp_skip ?_)
  cases c₀
  simp_all [bodyPostS, results, Try.results33]

/-- what a frame's way out depends on: its results alone -/
theorem leaves_congr {P : Program} {fn : Func} {t1 t2 : Array Value} {R : Ending → World → Prop} (hres : results fn t1 = results fn t2) : ∀ (ds : List Deferred) (m : FrameMode) (w : World), Leaves P fn t1 R ds m w → Leaves P fn t2 R ds m w
  | [], .returning, _, h => by simpa only [Leaves, hres] using h
  | [], .panicking _, _, h => h
  | [], .run, _, h => h
  | d :: ds, m, w, h => by
    obtain ⟨h1, fv, cap, f, args, h2, h3, h4⟩ := h
    refine ⟨h1, fv, cap, f, args, h2, h3, h4.mono fun e u' w' he => ?_⟩
    cases e with
    | returned v => exact leaves_congr hres ds _ _ he
    | panicked c => exact leaves_congr hres ds _ _ he
    | outgrown => exact he
theorem sum_hq {R : Ending → World → Prop} {d : Nat} (h4 : d ≠ 4) (h5 : d ≠ 5) {v : Value} (c : List PanicEntry) (a : Act) (w : World) (h : bodyPostD Try.prog Try.f17 R (.panic c) (a.put (some d) v) w) : bodyPostD Try.prog Try.f17 R (.panic c) a w := by
  refine leaves_congr ?_ _ _ _ h
  simp [results, Try.results17, Act.put, Array.getElem?_setIfInBounds_ne h4, Array.getElem?_setIfInBounds_ne h5]

/-- the two results' boxes -/
structure SumBox (w W : World) (h : Nat) (acc : Int) : Prop where
  below : Below w.heap.size w W
  one : W.heap[h]? = some (.cells #[.int .i64 acc] 3 (0, 0))
  two : W.heap[h + 1]? = some (.cells #[.bool false] 4 (0, 0))

set_option maxHeartbeats 2000000 in
theorem sum_gen {w : World} {p : Option Addr} (f : Int → Form) (hv : ∀ W id, Below w.heap.size w W → Calls Try.prog 29 #[.pointer p, .int .i64 id] W fun e w' => e = .returned (f id).val ∧ w' = W) (A : Option Addr) (n c : Nat) (ids : List Int) (hr : Rd int1 1 w A n ids) (hn : n ≤ 1000000) :
    Calls Try.prog 17 #[.pointer p, .slice A n c] w fun e w' =>
      e = .returned (.tuple #[.int .i64 ((sumW f 0 ids).getD 0), .bool (sumW f 0 ids).isSome]) ∧ Below w.heap.size w w' := by
  have HV := Lib.hid hv
  have HR := Lib.hid hr
  have hlen := hr.1
  have hmf : ∀ (fn : Fn) (first cap : Array Value) (w : World), (Instr.makeFunc fn first cap).run Try.prog w = .ok (.func fn first cap) w := fun _ _ _ _ => rfl
  clear hv hr
  have hfin : ids.take n = ids := List.take_of_length_le (by omega)
  go_enter_defers Try.func17, Try.ntmps17
  go_wp2
  go_loopw [11] (fun u W => ∃ (k : Nat) (acc : Int), k ≤ n ∧ u = .int .i64 k ∧ sumW f 0 (ids.take k) = some acc ∧ SumBox w W w.heap.size acc) (fun u _ => n - (intOf u).toNat)
  case atStart => exact ⟨0, 0, Nat.zero_le _, rfl, rfl, by go_grown, heap_alloc2_old _ _ _, heap_alloc2_new _ _ _⟩
  case round =>
    obtain ⟨k, acc, hk, rfl, hacc, hbx⟩ := hrel
    have o0 : wr.cell? ⟨w.heap.size, 0, none⟩ = some (.int .i64 acc) := by rw [cell_of_row wr _ _ _ _ (0, 0) hbx.one]; rfl
    have o1 : wr.cell? ⟨w.heap.size + 1, 0, none⟩ = some (.bool false) := by rw [cell_of_row wr _ _ _ _ (0, 0) hbx.two]; rfl
    have z0 := frozen_of_row wr w.heap.size 0 _ _ hbx.one
    have z1 := frozen_of_row wr (w.heap.size + 1) 0 _ _ hbx.two
    by_cases hlt : k < n
    · obtain ⟨id, b, off, hx, hA, hcs⟩ := (HR.out.below hbx.below).at_ hlt
      subst hA
      have hc0 : wr.cell? ⟨b, off + k, none⟩ = some (.int .i64 id) := by have := hcs 0 _ rfl; simpa using this
      have hsn : sumW f 0 (ids.take (k + 1)) = (if (f id).kind = 1 then some (wrap64 (acc + (f id).int)) else none) := by
        rw [take_snoc hx, sumW_snoc, hacc]; rfl
      have HSN := Lib.hid hsn
      have HBX := Lib.hid hbx
      have HVI := Lib.hid (fun W hW => HV.out W id (hbx.below.trans hW))
      have hkn : (k : Int) < n := by omega
      clear hcs hx hsn hbx hacc
      generalize f id = F at *
      by_cases hF : F.kind = 1
      · obtain ⟨m, rfl⟩ : ∃ m, F = .num m := by cases F <;> first | exact ⟨_, rfl⟩ | (simp [Form.kind] at hF)
        have HVN : Hid (∀ W, Below wr.heap.size wr W → Calls Try.prog 29 #[.pointer p, .int .i64 id] W fun e w' => e = .returned (.iface 3 (.int .i64 m)) ∧ w' = W) := fun W hW => HVI.out W (hW.mono HBX.out.below.size)
        clear HVI hF
        go_wp2_with fail
        refine wp_region_noPanic ?_
        go_region_with (first | (go_at_call 29; (with_reducible refine (HVN.out _ ?_).mono ?_); (first | assumption | exact (Below.refl _ _).drew); rintro e w6 ⟨rfl, rfl⟩))
        all_goals
          refine NoPanic.normal ?_
          go_wp2
          go_roundw
          case rel =>
            refine ⟨k + 1, _, by omega, by go_num, HSN.out, (HBX.out.below.setCell (by simp) _).drew, ?_, ?_⟩
            · show (wr.setCell _ _).heap[_]? = _
              rw [heap_setCell_same _ _ _ _ _ _ HBX.out.one]; rfl
            · show (wr.setCell _ _).heap[_]? = _
              rw [heap_setCell_other _ _ _ _ (by simp)]; exact HBX.out.two
          case measure => simp [intOf]; omega
      · obtain ⟨X, hbad⟩ : ∃ X : Obj, ∀ W : World, (Instr.typeAssert F.val 20 3 false).run Try.prog W = .halt (.panic (.iface 15 (.pointer (some ⟨W.heap.size, 0, none⟩)))) (W.alloc X) := by
          cases F
          · exact ⟨_, bad_nil⟩
          · simp [Form.kind] at hF
          · exact ⟨_, bad_str _⟩
          · exact ⟨_, bad_hop _⟩
        have HSN' := Lib.hid (HSN.out.trans (if_neg hF))
        have HVN : Hid (∀ W, Below wr.heap.size wr W → Calls Try.prog 29 #[.pointer p, .int .i64 id] W fun e w' => e = .returned F.val ∧ w' = W) := fun W hW => HVI.out W (hW.mono HBX.out.below.size)
        have hs0 : w.heap.size < wr.heap.size := by have := (Array.getElem?_eq_some_iff.1 HBX.out.one).1; omega
        have hs1 : w.heap.size + 1 < wr.heap.size := (Array.getElem?_eq_some_iff.1 HBX.out.two).1
        have hz0 : (wr.alloc X).frozen? ⟨w.heap.size, 0, none⟩ = false := frozen_of_row _ _ 0 _ _ (by rw [heap_alloc_old _ _ hs0]; exact HBX.out.one)
        have hz1 : (wr.alloc X).frozen? ⟨w.heap.size + 1, 0, none⟩ = false := frozen_of_row _ _ 0 _ _ (by rw [heap_alloc_old _ _ hs1]; exact HBX.out.two)
        have hnone : sumW f 0 ids = none := by
          rw [← List.take_append_drop (k + 1) ids]
          exact sumW_none _ _ _ _ HSN'.out
        clear HVI HSN hF
        generalize F.val = fv at *
        go_wp2_with fail
        refine wp_region_any (by kernel_rfl) ?_
        change wpAny _ _ _ _ _ _ _ (World.drew _)
        refine wpAny_take (i := 1) (v := .pointer p) rfl (by kernel_rfl) (by kernel_rfl) (by kernel_rfl) (fun _ _ _ h => sum_hq (by decide) (by decide) _ _ _ h) (Or.inl ⟨by rfl, fun w => by go_simp⟩) ?_
        refine wpAny_take (i := 2) (v := .int .i64 id) rfl (by kernel_rfl) (by kernel_rfl) (by kernel_rfl) (fun _ _ _ h => sum_hq (by decide) (by decide) _ _ _ h) (Or.inl ⟨by rfl, fun w => by go_simp⟩) ?_
        refine wpAny_ready (rs := [0, 3]) (by kernel_rfl) (by simp) ?_
        refine AllReady.cons rfl (fun K hK => ?_) (AllReady.cons rfl (fun K hK => ?_) AllReady.nil)
        · go_simp
          refine hK _ _ ?_
          clear hK K
          refine wpAny_ready (rs := [3]) (by kernel_rfl) (by simp) ?_
          refine AllReady.cons rfl (fun K hK => ?_) AllReady.nil
          go_simp
          go_wp2_with (go_at_call 29; (with_reducible refine (HVN.out _ ?_).mono ?_); (first | assumption | exact (Below.refl _ _).drew); rintro e w6 ⟨rfl, rfl⟩)
          refine wpAny_ready (rs := [4]) (by kernel_rfl) (by simp) ?_
          refine AllReady.cons rfl (fun K hK => ?_) AllReady.nil
          go_simp
          refine leaves_cons (f := 33) (args := #[.pointer (some ⟨w.heap.size, 0, none⟩), .pointer (some ⟨w.heap.size + 1, 0, none⟩)]) (by simp) (by simp [go_sem]) ?_
          refine (catch_panicking ⟨w.heap.size, 0, none⟩ ⟨w.heap.size + 1, 0, none⟩ acc false _ _ [] _ ?_ ?_ ?_ ?_ ?_).mono ?_
          · simp [go_sem, hs0, o0]
          · simp [go_sem, hz0]
          · simp [go_sem, hs1, o1]
          · simp [go_sem, hz1]
          · simp
          rintro e u' w'' ⟨rfl, rfl, rfl⟩
          simp [Leaves, settle, results, Try.results17, go_sem, hnone, hs0, hs1, o0, o1]
          exact (((HBX.out.below.setCell (p := ⟨w.heap.size, 0, none⟩) (Nat.le_refl _) _).setCell (p := ⟨w.heap.size + 1, 0, none⟩) (Nat.le_succ _) _).alloc (by simpa using HBX.out.below.size) X).drew
        · go_simp
          go_wp2_with (go_at_call 29; (with_reducible refine (HVN.out _ ?_).mono ?_); (first | assumption | exact (Below.refl _ _).drew); rintro e w6 ⟨rfl, rfl⟩)
          refine wpAny_ready (rs := [0, 4]) (by kernel_rfl) (by simp) ?_
          refine AllReady.cons rfl (fun K hK => ?_) (AllReady.cons rfl (fun K hK => ?_) AllReady.nil)
          · go_simp
            refine hK _ _ ?_
            clear hK K
            refine wpAny_ready (rs := [4]) (by kernel_rfl) (by simp) ?_
            refine AllReady.cons rfl (fun K hK => ?_) AllReady.nil
            go_simp
            refine leaves_cons (f := 33) (args := #[.pointer (some ⟨w.heap.size, 0, none⟩), .pointer (some ⟨w.heap.size + 1, 0, none⟩)]) (by simp) (by simp [go_sem]) ?_
            refine (catch_panicking ⟨w.heap.size, 0, none⟩ ⟨w.heap.size + 1, 0, none⟩ acc false _ _ [] _ ?_ ?_ ?_ ?_ ?_).mono ?_
            · simp [go_sem, hs0, o0]
            · simp [go_sem, hz0]
            · simp [go_sem, hs1, o1]
            · simp [go_sem, hz1]
            · simp
            rintro e u' w'' ⟨rfl, rfl, rfl⟩
            simp [Leaves, settle, results, Try.results17, go_sem, hnone, hs0, hs1, o0, o1]
            exact (((HBX.out.below.setCell (p := ⟨w.heap.size, 0, none⟩) (Nat.le_refl _) _).setCell (p := ⟨w.heap.size + 1, 0, none⟩) (Nat.le_succ _) _).alloc (by simpa using HBX.out.below.size) X).drew
          · go_simp
            refine leaves_cons (f := 33) (args := #[.pointer (some ⟨w.heap.size, 0, none⟩), .pointer (some ⟨w.heap.size + 1, 0, none⟩)]) (by simp) (by simp [go_sem]) ?_
            refine (catch_panicking ⟨w.heap.size, 0, none⟩ ⟨w.heap.size + 1, 0, none⟩ acc false _ _ [] _ ?_ ?_ ?_ ?_ ?_).mono ?_
            · simp [go_sem, hs0, o0]
            · simp [go_sem, hz0]
            · simp [go_sem, hs1, o1]
            · simp [go_sem, hz1]
            · simp
            rintro e u' w'' ⟨rfl, rfl, rfl⟩
            simp [Leaves, settle, results, Try.results17, go_sem, hnone, hs0, hs1, o0, o1]
            exact (((HBX.out.below.setCell (p := ⟨w.heap.size, 0, none⟩) (Nat.le_refl _) _).setCell (p := ⟨w.heap.size + 1, 0, none⟩) (Nat.le_succ _) _).alloc (by simpa using HBX.out.below.size) X).drew
    · have hkn : n = k := by omega
      subst hkn
      have hsome : sumW f 0 ids = some acc := by rw [← hfin]; exact hacc
      have HBX := Lib.hid hbx
      clear hacc hbx hfin
      go_wp2
      refine leaves_cons (f := 33) (args := #[.pointer (some ⟨w.heap.size, 0, none⟩), .pointer (some ⟨w.heap.size + 1, 0, none⟩)]) (by simp) (by simp [go_sem]) ?_
      refine (catch_idle ⟨w.heap.size, 0, none⟩ ⟨w.heap.size + 1, 0, none⟩ _).mono ?_
      rintro e u' w'' ⟨rfl, rfl, rfl⟩
      simp [Leaves, settle, results, Try.results17, go_sem, hsome, o0, o1]
      exact ((HBX.out.below.setCell (by simp) _).setCell (by simp) _)

theorem sum_any {w : World} {B g : Nat} {room : Int} {v : Value} {ts : List (Value × Int)} (f : Int → Form) (hf : ∀ id, valAt ts id = (f id).val) (h : PoolAt w B g room v ts) (A : Option Addr) (n c : Nat) (ids : List Int) (hr : Rd int1 1 w A n ids) (hn : n ≤ 1000000) :
    Calls Try.prog 17 #[.pointer (some ⟨g, 0, none⟩), .slice A n c] w fun e w' =>
      e = .returned (.tuple #[.int .i64 ((sumW f 0 ids).getD 0), .bool (sumW f 0 ids).isSome]) ∧ Below w.heap.size w w' :=
  sum_gen f (fun W id hW => by
    have := value_any id (h.mono hW)
    rwa [hf] at this) A n c ids hr hn

end Go.Proofs.Ytifadjakpllpfaa
