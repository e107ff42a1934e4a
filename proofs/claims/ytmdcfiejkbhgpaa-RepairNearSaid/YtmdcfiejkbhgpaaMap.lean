/-
  A map of the call's own, by the things that it holds: one word for whatever key and whatever elements; looked up, written. No function of the program is named but for the two types of keys.
-/
import Derived.Test.YtmdcfiejkbhgpaaMem
import Derived.Maps.Own
import Derived.Maps.OwnOps
import Derived.DeepKeys4
namespace Go.Proofs.Ytmdcfiejkbhgpaa
open Go.RowKit Go.Maps
open Go.ChangeMaps (setBlock heap_setBlock_same heap_setBlock_other)

/-- block b is a map of at most n entries, which holds v at key x just where F x v -/
def MapV (P : Program) (k : TypeId) (w : World) (b n : Nat) (F : Value → Value → Prop) : Prop :=
  ∃ es clock, w.heap[b]? = some (.map es clock) ∧ es.size ≤ n ∧ (∀ e ∈ es.toList, ∃ l, keyOf P k e.key = some l) ∧ es.toList.Pairwise (fun x y => x.key ≠ y.key) ∧ ∀ x v, F x v ↔ ∃ e ∈ es.toList, e.key = x ∧ e.val = v

theorem mapV_made (w : World) (P : Program) (k : TypeId) : MapV P k (w.alloc (.map #[] 0)) w.heap.size 0 (fun _ _ => False) :=
  ⟨#[], 0, (MapKept.heap_alloc w _).1, Nat.le_refl _, by simp, by simp, by simp⟩
theorem MapV.lt {P : Program} {k : TypeId} {w : World} {b n : Nat} {F : Value → Value → Prop} (h : MapV P k w b n F) : b < w.heap.size := by
  obtain ⟨es, clock, hb, _⟩ := h
  exact (Array.getElem?_eq_some_iff.1 hb).1
theorem MapV.kept {P : Program} {k : TypeId} {w w' : World} {b n : Nat} {F : Value → Value → Prop} {row : Option Nat} (h : MapV P k w b n F) (hg : w.grownBy w' row) (hne : some b ≠ row) : MapV P k w' b n F := by
  have hlt := h.lt
  obtain ⟨es, clock, hb, r⟩ := h
  exact ⟨es, clock, (hg.block b hlt hne).trans hb, r⟩
theorem MapV.block {P : Program} {k : TypeId} {w w' : World} {b n : Nat} {F : Value → Value → Prop} (h : MapV P k w b n F) (hg : w'.heap[b]? = w.heap[b]?) : MapV P k w' b n F := by
  obtain ⟨es, clock, hb, r⟩ := h
  exact ⟨es, clock, hg.trans hb, r⟩
theorem MapV.below {P : Program} {k : TypeId} {w w' : World} {b n : Nat} {F : Value → Value → Prop} (h : MapV P k w b n F) (hb : Below w.heap.size w w') : MapV P k w' b n F :=
  h.kept (grown_of_below hb none) (by simp)
theorem MapV.as {P : Program} {k : TypeId} {w : World} {b n m : Nat} {F G : Value → Value → Prop} (h : MapV P k w b n F) (hn : n ≤ m) (hg : ∀ x v, G x v ↔ F x v) : MapV P k w b m G := by
  obtain ⟨es, clock, hb, hs, hk, hd, hF⟩ := h
  exact ⟨es, clock, hb, Nat.le_trans hs hn, hk, hd, fun x v => (hg x v).trans (hF x v)⟩

/-- 'm[k]': what is there; else the zero value. -/
theorem MapV.look {P : Program} {k t e : TypeId} {w : World} {b n : Nat} {F : Value → Value → Prop} (h : MapV P k w b n F) (K : Keyed P k) (ht : P.underlying t = some (.map k e)) {z : Value} (hz : (zeroValue e).run P w = .ok z w)
    {key : Value} {kl : Lit} (hkey : keyOf P k key = some kl) :
    ∃ v, (Instr.lookup t (.map (some b)) key false).run P w = .ok v w ∧ ((F key v) ∨ (v = z ∧ ∀ u, ¬ F key u)) := by
  obtain ⟨es, clock, hb, hs, hk, hd, hF⟩ := h
  rcases K.find w hkey es.toList hk with ⟨h1, h2⟩ | ⟨j, e0, h1, h2, h3⟩
  · refine ⟨z, by simp [Instr.lookup, run_underlying ht, MapKept.run_getObj_map hb, K.check w _ hkey, h1, hz, Result.andThen], .inr ⟨rfl, fun u hu => ?_⟩⟩
    obtain ⟨e1, he, hk1, _⟩ := (hF key u).1 hu
    exact h2 e1 he hk1
  · refine ⟨e0.val, by simp [Instr.lookup, run_underlying ht, MapKept.run_getObj_map hb, K.check w _ hkey, h1, Result.andThen], .inl ?_⟩
    exact (hF _ _).2 ⟨e0, List.mem_of_getElem? h2, h3, rfl⟩

/-- 'm[k] = v'. -/
theorem MapV.update {P : Program} {k t e : TypeId} {w : World} {b n : Nat} {F : Value → Value → Prop} (h : MapV P k w b n F) (K : Keyed P k) (ht : P.underlying t = some (.map k e)) {key val : Value} {kl : Lit} (hkey : keyOf P k key = some kl) :
    ∃ w', (Instr.mapUpdate t (.map (some b)) key val).run P w = .ok () w' ∧ MapV P k w' b (n + 1) (fun x v => (x = key ∧ v = val) ∨ (x ≠ key ∧ F x v)) ∧ w.grownBy w' (some b) := by
  obtain ⟨es, clock, hb, hs, hk, hd, hF⟩ := h
  rcases K.find w hkey es.toList hk with ⟨h1, h2⟩ | ⟨j, e0, h1, h2, h3⟩
  · refine ⟨setBlock w b (.map (es.push ⟨key, val, clock⟩) (clock + 1)), ?_, ⟨_, _, heap_setBlock_same hb _, by simp; omega, ?_, ?_, fun x v => ?_⟩, ⟨rfl, rfl, rfl, by simp [setBlock], fun i _ hi => heap_setBlock_other hb _ (fun e => hi (by rw [e]))⟩⟩
    · simp [Instr.mapUpdate, run_underlying ht, MapKept.run_getObj_map hb, K.check w false hkey, h1, MapKept.run_setObj_map _ hb, Result.andThen, setBlock]
    · intro x hx
      simp only [Array.toList_push, List.mem_append, List.mem_singleton] at hx
      rcases hx with hx | rfl
      · exact hk x hx
      · exact ⟨kl, hkey⟩
    · rw [Array.toList_push, List.pairwise_append]
      exact ⟨hd, by simp, fun x hx y hy => by rw [List.mem_singleton] at hy; subst hy; exact h2 x hx⟩
    · simp only [Array.toList_push, List.mem_append, List.mem_singleton, hF]
      constructor
      · rintro (⟨rfl, rfl⟩ | ⟨_, e1, he, rfl, rfl⟩)
        · exact ⟨_, .inr rfl, rfl, rfl⟩
        · exact ⟨e1, .inl he, rfl, rfl⟩
      · rintro ⟨e1, he | rfl, rfl, rfl⟩
        · exact .inr ⟨h2 e1 he, e1, he, rfl, rfl⟩
        · exact .inl ⟨rfl, rfl⟩
  · have hj : es[j]? = some e0 := by simpa using h2
    have hjl : j < es.toList.length := (List.getElem?_eq_some_iff.1 h2).1
    have hlist : (es.modify j (fun e' => { e' with key := key, val := val })).toList = es.toList.set j { e0 with key := key, val := val } := by rw [Array.toList_modify, ChangeMaps.modify_eq_set _ _ _ _ h2]
    have hoth : ∀ x ∈ es.toList, x.key ≠ key → x ∈ es.toList.set j { e0 with key := key, val := val } := by
      intro x hx hne
      obtain ⟨i, hi, rfl⟩ := List.getElem_of_mem hx
      refine List.mem_iff_getElem.2 ⟨i, by simpa using hi, ?_⟩
      rw [List.getElem_set, if_neg]
      rintro rfl
      apply hne
      rw [← h3]
      have := List.getElem?_eq_getElem hi
      rw [h2] at this
      rw [← Option.some.inj this]
    have who : ∀ x ∈ es.toList.set j { e0 with key := key, val := val }, x = { e0 with key := key, val := val } ∨ (x ∈ es.toList ∧ x.key ≠ key) := by
      intro x hx
      obtain ⟨i, hi, ex⟩ := List.getElem_of_mem hx
      rw [List.getElem_set] at ex
      split at ex
      · exact Or.inl ex.symm
      · rename_i hne
        have hi' : i < es.toList.length := by simpa using hi
        refine Or.inr ⟨ex ▸ List.getElem_mem hi', ?_⟩
        have hj0 := List.getElem?_eq_getElem hjl
        rw [h2] at hj0
        have e0' := Option.some.inj hj0
        rw [← h3, e0', ← ex]
        rw [List.pairwise_iff_getElem] at hd
        rcases Nat.lt_or_gt_of_ne hne with h | h
        · exact (hd j i hjl hi' h).symm
        · exact hd i j hi' hjl h
    refine ⟨setBlock w b (.map (es.modify j (fun e' => { e' with key := key, val := val })) clock), ?_, ⟨_, _, heap_setBlock_same hb _, by simpa using Nat.le_succ_of_le hs, ?_, ?_, fun x v => ?_⟩, ⟨rfl, rfl, rfl, by simp [setBlock], fun i _ hi => heap_setBlock_other hb _ (fun e => hi (by rw [e]))⟩⟩
    · simp [Instr.mapUpdate, run_underlying ht, MapKept.run_getObj_map hb, K.check w false hkey, h1, hj, h3, K.stays w hkey, MapKept.run_setObj_map _ hb, Result.andThen, setBlock]
    · intro x hx
      rw [hlist] at hx
      rcases who x hx with rfl | ⟨hx', _⟩
      · exact ⟨kl, hkey⟩
      · exact hk x hx'
    · rw [hlist, List.pairwise_iff_getElem]
      rw [List.pairwise_iff_getElem] at hd
      have hj0 := List.getElem?_eq_getElem hjl
      rw [h2] at hj0
      have e0' := Option.some.inj hj0
      intro i i' hi hi' hlt
      have hi1 : i < es.toList.length := by simpa using hi
      have hi1' : i' < es.toList.length := by simpa using hi'
      rw [List.getElem_set, List.getElem_set]
      split
      · subst_vars
        rw [if_neg (by omega)]
        exact hd _ _ hjl hi1' hlt
      · split
        · subst_vars
          exact hd _ _ hi1 hjl hlt
        · exact hd _ _ hi1 hi1' hlt
    · simp only [hlist, hF]
      constructor
      · rintro (⟨hx, hv⟩ | ⟨hne, e1, he, rfl, rfl⟩)
        · exact ⟨{ e0 with key := key, val := val }, List.mem_iff_getElem.2 ⟨j, by simpa using hjl, by simp⟩, hx.symm, hv.symm⟩
        · exact ⟨e1, hoth e1 he hne, rfl, rfl⟩
      · rintro ⟨e1, he, rfl, rfl⟩
        rcases who e1 he with rfl | ⟨h', hne⟩
        · exact .inl ⟨rfl, rfl⟩
        · exact .inr ⟨hne, e1, h', rfl, rfl⟩

/-- the look-up at the operation -/
theorem wpList_lookV {P : Program} (w : World) {ops : Array Oper} {rest : List Oper} {o : Oper} {a : Act} {Q : Exit → Act → World → Prop}
    (hg : o.guard = none) (m x : Operand) (t : TypeId) (hop : o.op = Op.lookup t m x false)
    {k e : TypeId} {b n : Nat} {F : Value → Value → Prop} (h : MapV P k w b n F) (K : Keyed P k) (ht : P.underlying t = some (.map k e)) {z : Value} (hz : (zeroValue e).run P w = .ok z w)
    (hm : a.eval m = .map (some b)) (key : Value) {kl : Lit} (hx : a.eval x = key) (hkey : keyOf P k key = some kl)
    (hK : ∀ v, ((F key v) ∨ (v = z ∧ ∀ u, ¬ F key u)) → wpList P ops Q rest (a.put o.dst v) w) :
    wpList P ops Q (o :: rest) a w := by
  refine wpList_plain hg fun K' hK' => ?_
  obtain ⟨v, hrun, hv⟩ := h.look K ht hz hkey
  unfold Oper.wp
  simp [execOp, hop, hm, hx, hrun, Result.andThen]
  exact hK' _ _ (hK v hv)
/-- the store at the operation -/
theorem wpList_updV {P : Program} (w : World) {ops : Array Oper} {rest : List Oper} {o : Oper} {a : Act} {Q : Exit → Act → World → Prop}
    (hg : o.guard = none) (m x v : Operand) (t : TypeId) (hop : o.op = Op.mapUpdate t m x v)
    {k e : TypeId} {b n : Nat} {F : Value → Value → Prop} (h : MapV P k w b n F) (K : Keyed P k) (ht : P.underlying t = some (.map k e))
    (hm : a.eval m = .map (some b)) (key val : Value) {kl : Lit} (hx : a.eval x = key) (hv : a.eval v = val) (hkey : keyOf P k key = some kl)
    (hK : ∀ w', MapV P k w' b (n + 1) (fun x v => (x = key ∧ v = val) ∨ (x ≠ key ∧ F x v)) → w.grownBy w' (some b) → wpList P ops Q rest (a.put o.dst undef) w') :
    wpList P ops Q (o :: rest) a w := by
  refine wpList_plain hg fun K' hK' => ?_
  obtain ⟨w', hrun, r1, r2⟩ := h.update K ht (val := val) hkey
  unfold Oper.wp
  simp [execOp, hop, hm, hx, hv, hrun, Result.andThen]
  exact hK' _ _ (hK w' r1 r2)

/-! ### the two types of keys -/
set_option maxRecDepth 100000 in
theorem laidOutA : laidOutB Try.prog = true := by kernel_rfl
set_option maxRecDepth 100000 in
theorem row2 : (63 : TypeId) < Try.prog.types.size := of_decide_eq_true (by kernel_rfl)
theorem wide2 : (match Try.prog.underlying 63 with | some (.array _ _) | some (.struct _) => true | _ => false) = true := by rw [Try.underlying63]
set_option maxRecDepth 100000 in
theorem keyed2 : Keyed Try.prog 63 := Keyed.of_law (deep_law_laid laidOutA (m := 2) (by omega) row2 (by kernel_rfl) wide2)
theorem keyedI : Keyed Try.prog 3 := int_keyed Try.underlying3
def Sm (a : Int) : Prop := -1000000000 ≤ a ∧ a ≤ 1000000000
theorem sm_wf {a : Int} (h : Sm a) : (Lit.int .i64 a).wf = true := by
  unfold Sm at h
  simp only [Lit.wf, Bool.and_eq_true, decide_eq_true_eq]
  have e1 : IntKind.i64.min = -9223372036854775808 := by decide
  have e2 : IntKind.i64.max = 9223372036854775807 := by decide
  omega
theorem keyI {a : Int} (h : Sm a) : keyOf Try.prog 3 (.int .i64 a) = some (.int .i64 a) := keyOf_int_mk Try.underlying3 (sm_wf h)
set_option maxRecDepth 100000 in
theorem key2 {a b : Int} (ha : Sm a) (hb : Sm b) : ∃ l, keyOf Try.prog 63 (.agg #[.int .i64 a, .int .i64 b]) = some l := by
  have e1 : Try.prog.keyType 63 = true := by kernel_rfl
  have e2 : Try.prog.cellsOf 63 = 2 := by kernel_rfl
  have e3 : Try.prog.cellsOf 3 = 1 := by kernel_rfl
  have e4 : ∃ m, Try.prog.types.size = m + 1 := ⟨Try.prog.types.size - 1, by have : 0 < Try.prog.types.size := of_decide_eq_true (by kernel_rfl); omega⟩
  obtain ⟨m, hm⟩ := e4
  have wa := sm_wf ha
  have wb := sm_wf hb
  have hr : List.range 2 = [0, 1] := rfl
  simp [keyOf, Try.underlying63, e1, Value.formed, e2, hm, Program.keyLits, Value.cells, e3, Try.underlying3, hr, wa, wb]

#print axioms MapV.update
#print axioms key2
end Go.Proofs.Ytmdcfiejkbhgpaa
