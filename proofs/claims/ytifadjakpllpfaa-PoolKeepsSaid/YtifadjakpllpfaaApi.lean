/-
  The pool: AddInt, AddText, AddHop; Int, Text, Hop.
-/
import Derived.Test.YtifadjakpllpfaaHop
namespace Go.Proofs.Ytifadjakpllpfaa
open Go.RowKit

theorem own_mut {w w' : World} {B base n size : Nat} {e : TypeId} {v : Value} {xs : List Value} (h : w.ownsRow base e size v n xs) (h1 : e ≠ 66) (h2 : e ≠ 79) (hm : Mut B w w') : w'.ownsRow base e size v n xs := by
  refine ⟨h.1, ?_⟩
  rcases h.2 with h0 | ⟨g, cap, cur, hv, hb, hg, r⟩
  · exact .inl h0
  · exact .inr ⟨g, cap, cur, hv, hb, (hm.keep g (Array.getElem?_eq_some_iff.1 hg).1 (.inr ⟨_, _, _, hg, h1, h2⟩)).trans hg, r⟩

/-- what add answers, and what is there then -/
def addId (room : Int) (ts : List (Value × Int)) : Int := if (used ts : Int) = room then 0 else slot ts
def addE (room : Int) (ts : List (Value × Int)) : Int := if (used ts : Int) = room then 30 else 0
def addTs (room : Int) (ts : List (Value × Int)) (v : Value) : List (Value × Int) := if (used ts : Int) = room then ts else put ts (slot ts) (v, 1)

theorem add_any {w : World} {B g : Nat} {room : Int} {v : Value} {ts : List (Value × Int)} (ty : TypeId) (y : Value) (h : PoolAt w B g room v ts) (hl : ts.length < 100) (hB : B ≤ w.heap.size) :
    Calls Try.prog 34 #[.pointer (some ⟨g, 0, none⟩), .iface ty y] w fun e w' => e = .returned (.tuple #[.int .i64 (addId room ts), .int .i64 (addE room ts)]) ∧ (∃ v', PoolAt w' B g room v' (addTs room ts (.iface ty y))) ∧ Mut B w w' := by
  unfold addId addE addTs
  by_cases hf : (used ts : Int) = room
  · rw [if_pos hf, if_pos hf, if_pos hf]
    exact (add_full _ h hf).mono fun e w' ⟨he, hb⟩ => ⟨he, ⟨v, h.mono hb⟩, Mut.below hb⟩
  · rw [if_neg hf, if_neg hf, if_neg hf]
    rcases slot_idx ts with ⟨-, hs⟩ | ⟨-, hs, -⟩
    · rw [put, if_pos hs]
      exact add_new ty y h hf hs hl hB
    · rw [put, if_neg (by omega)]
      exact (add_old ty y h hf hs).mono fun e w' ⟨he, hp, hm⟩ => ⟨he, ⟨v, hp⟩, hm⟩

set_option maxHeartbeats 1000000 in
theorem addInt_any {w : World} {B g : Nat} {room : Int} {v : Value} {ts : List (Value × Int)} (n : Int) (h : PoolAt w B g room v ts) (hl : ts.length < 100) (hB : B ≤ w.heap.size) :
    Calls Try.prog 25 #[.pointer (some ⟨g, 0, none⟩), .int .i64 n] w fun e w' => e = .returned (.tuple #[.int .i64 (addId room ts), .int .i64 (addE room ts)]) ∧ (∃ v', PoolAt w' B g room v' (addTs room ts (.iface 3 (.int .i64 n)))) ∧ Mut B w w' := by
  have HA := Lib.hid (add_any 3 (.int .i64 n) h hl hB)
  generalize addId room ts = a at *
  generalize addE room ts = b at *
  generalize addTs room ts (.iface 3 (.int .i64 n)) = t at *
  clear h
  go_enter Try.func25, Try.ntmps25
  go_wp2_with fail
  refine (HA.out).mono ?_
  rintro e w1 ⟨rfl, hp, hm⟩
  go_wp2
  go_ret2
  exact ⟨rfl, hp, hm⟩

set_option maxHeartbeats 1000000 in
theorem addText_any {w : World} {B g : Nat} {room : Int} {v : Value} {ts : List (Value × Int)} (s : ByteArray) (h : PoolAt w B g room v ts) (hl : ts.length < 100) (hB : B ≤ w.heap.size) :
    Calls Try.prog 24 #[.pointer (some ⟨g, 0, none⟩), .string s] w fun e w' => e = .returned (.tuple #[.int .i64 (addId room ts), .int .i64 (addE room ts)]) ∧ (∃ v', PoolAt w' B g room v' (addTs room ts (.iface 9 (.string s)))) ∧ Mut B w w' := by
  have HA := Lib.hid (add_any 9 (.string s) h hl hB)
  generalize addId room ts = a at *
  generalize addE room ts = b at *
  generalize addTs room ts (.iface 9 (.string s)) = t at *
  clear h
  go_enter Try.func24, Try.ntmps24
  go_wp2_with fail
  refine (HA.out).mono ?_
  rintro e w1 ⟨rfl, hp, hm⟩
  go_wp2
  go_ret2
  exact ⟨rfl, hp, hm⟩

set_option maxHeartbeats 1000000 in
theorem addHop_any {w : World} {B g : Nat} {room : Int} {v : Value} {ts : List (Value × Int)} (op port backup : Int) (L R : Option Addr) (ln lc rn rc : Nat) (pipe : Bool) (ll rl : List Int) (hl : Rd int1 1 w L ln ll) (hr : Rd int1 1 w R rn rl) (hln : ln ≤ 1000000) (hrn : rn ≤ 1000000)
    (h : PoolAt w B g room v ts) (hlen : ts.length < 100) (hB : B ≤ w.heap.size) :
    Calls Try.prog 19 #[.pointer (some ⟨g, 0, none⟩), .agg #[.int .i64 op, .slice L ln lc, .int .i64 port, .int .i64 backup, .slice R rn rc, .bool pipe]] w fun e w' =>
      e = .returned (.tuple #[.int .i64 (addId room ts), .int .i64 (addE room ts)]) ∧ (∃ v' vl vr, PoolAt w' B g room v' (addTs room ts (.iface 35 (.agg #[.int .i64 op, vl, .int .i64 port, .int .i64 backup, vr, .bool pipe]))) ∧
        w'.ownsRow w.heap.size 3 1 vl ln (flatE int1 ll) ∧ w'.ownsRow w.heap.size 3 1 vr rn (flatE int1 rl)) ∧ Mut B w w' := by
  have HP := Lib.hid h
  have HC := Lib.hid (fun W hW => copied_any op port backup L R ln lc rn rc pipe ll rl W (hl.below hW) (hr.below hW) hln hrn)
  clear h hl hr
  go_enter Try.func19, Try.ntmps19
  go_wp2_with fail
  refine (HC.out _ (by go_grown)).mono ?_
  rintro e w1 ⟨vl, vr, rfl, hol, hor, hb⟩
  have hb1 : Below w.heap.size w w1 := below_step (by go_grown) hb
  have HA := Lib.hid (add_any 35 (.agg #[.int .i64 op, vl, .int .i64 port, .int .i64 backup, vr, .bool pipe]) (HP.out.mono hb1) hlen (Nat.le_trans hB hb1.size))
  have HO := Lib.hid (And.intro hol hor)
  have HB := Lib.hid hb1
  clear hol hor hb hb1
  go_wp2_with fail
  refine (HA.out).mono ?_
  rintro e w2 ⟨rfl, hp, hm⟩
  go_wp2
  go_ret2
  obtain ⟨v', hp'⟩ := hp
  exact ⟨rfl, ⟨v', vl, vr, hp', own_mut (own_mono HO.out.1 (by simp)) (by decide) (by decide) hm, own_mut (own_mono HO.out.2 (by simp)) (by decide) (by decide) hm⟩, (Mut.below HB.out).trans hm⟩

/-! ### what an assertion says -/
@[go_sem] theorem as_nil_int (w : World) : (Instr.typeAssert .nilIface 20 3 true).run Try.prog w = .ok (.tuple #[.int .i64 0, .bool false]) w := by kernel_rfl
@[go_sem] theorem as_int_int (v : Value) (w : World) : (Instr.typeAssert (.iface 3 v) 20 3 true).run Try.prog w = .ok (.tuple #[v, .bool true]) w := by kernel_rfl
@[go_sem] theorem as_str_int (v : Value) (w : World) : (Instr.typeAssert (.iface 9 v) 20 3 true).run Try.prog w = .ok (.tuple #[.int .i64 0, .bool false]) w := by kernel_rfl
@[go_sem] theorem as_hop_int (v : Value) (w : World) : (Instr.typeAssert (.iface 35 v) 20 3 true).run Try.prog w = .ok (.tuple #[.int .i64 0, .bool false]) w := by kernel_rfl
@[go_sem] theorem as_nil_str (w : World) : (Instr.typeAssert .nilIface 20 9 true).run Try.prog w = .ok (.tuple #[.string ByteArray.empty, .bool false]) w := by kernel_rfl
@[go_sem] theorem as_int_str (v : Value) (w : World) : (Instr.typeAssert (.iface 3 v) 20 9 true).run Try.prog w = .ok (.tuple #[.string ByteArray.empty, .bool false]) w := by kernel_rfl
@[go_sem] theorem as_str_str (v : Value) (w : World) : (Instr.typeAssert (.iface 9 v) 20 9 true).run Try.prog w = .ok (.tuple #[v, .bool true]) w := by kernel_rfl
@[go_sem] theorem as_hop_str (v : Value) (w : World) : (Instr.typeAssert (.iface 35 v) 20 9 true).run Try.prog w = .ok (.tuple #[.string ByteArray.empty, .bool false]) w := by kernel_rfl
@[go_sem] theorem as_nil_hop (w : World) : (Instr.typeAssert .nilIface 20 35 true).run Try.prog w = .ok (.tuple #[.agg #[.int .i64 0, .slice none 0 0, .int .i64 0, .int .i64 0, .slice none 0 0, .bool false], .bool false]) w := by kernel_rfl
@[go_sem] theorem as_int_hop (v : Value) (w : World) : (Instr.typeAssert (.iface 3 v) 20 35 true).run Try.prog w = .ok (.tuple #[.agg #[.int .i64 0, .slice none 0 0, .int .i64 0, .int .i64 0, .slice none 0 0, .bool false], .bool false]) w := by kernel_rfl
@[go_sem] theorem as_str_hop (v : Value) (w : World) : (Instr.typeAssert (.iface 9 v) 20 35 true).run Try.prog w = .ok (.tuple #[.agg #[.int .i64 0, .slice none 0 0, .int .i64 0, .int .i64 0, .slice none 0 0, .bool false], .bool false]) w := by kernel_rfl
@[go_sem] theorem as_hop_hop (v : Value) (w : World) : (Instr.typeAssert (.iface 35 v) 20 35 true).run Try.prog w = .ok (.tuple #[v, .bool true]) w := by kernel_rfl

/-- what a thing can be -/
inductive Form where
  | none
  | num (n : Int)
  | text (s : ByteArray)
  | hop (op : Int) (L : Option Addr) (ln lc : Nat) (port backup : Int) (R : Option Addr) (rn rc : Nat) (pipe : Bool)
def Form.val : Form → Value
  | .none => .nilIface
  | .num n => .iface 3 (.int .i64 n)
  | .text s => .iface 9 (.string s)
  | .hop op L ln lc port backup R rn rc pipe => .iface 35 (.agg #[.int .i64 op, .slice L ln lc, .int .i64 port, .int .i64 backup, .slice R rn rc, .bool pipe])
def Form.kind : Form → Int
  | .none => 0
  | .num _ => 1
  | .text _ => 2
  | .hop .. => 3
def Form.int : Form → Int
  | .num n => n
  | _ => 0
def Form.str : Form → ByteArray
  | .text s => s
  | _ => ByteArray.empty

set_option maxHeartbeats 1000000 in
theorem int_at {w : World} {B g : Nat} {room : Int} {v : Value} {ts : List (Value × Int)} (id : Int) (f : Form) (hf : valAt ts id = f.val) (h : PoolAt w B g room v ts) :
    Calls Try.prog 12 #[.pointer (some ⟨g, 0, none⟩), .int .i64 id] w fun e w' => e = .returned (.tuple #[.int .i64 f.int, .bool (f.kind == 1)]) ∧ w' = w := by
  have HV := value_any id h
  rw [hf] at HV
  have HV := Lib.hid HV
  clear hf h
  cases f <;> (
    unfold Form.val at HV
    go_enter Try.func12, Try.ntmps12
    go_wp2_with fail
    refine (HV.out).mono ?_
    rintro e w1 ⟨rfl, rfl⟩
    go_wp2
    go_ret2
    exact ⟨rfl, rfl⟩)

set_option maxHeartbeats 1000000 in
theorem text_at {w : World} {B g : Nat} {room : Int} {v : Value} {ts : List (Value × Int)} (id : Int) (f : Form) (hf : valAt ts id = f.val) (h : PoolAt w B g room v ts) :
    Calls Try.prog 13 #[.pointer (some ⟨g, 0, none⟩), .int .i64 id] w fun e w' => e = .returned (.tuple #[.string f.str, .bool (f.kind == 2)]) ∧ w' = w := by
  have HV := value_any id h
  rw [hf] at HV
  have HV := Lib.hid HV
  clear hf h
  cases f <;> (
    unfold Form.val at HV
    go_enter Try.func13, Try.ntmps13
    go_wp2_with fail
    refine (HV.out).mono ?_
    rintro e w1 ⟨rfl, rfl⟩
    go_wp2
    go_ret2
    exact ⟨rfl, rfl⟩)

theorem zero_box {w : World} {h : Nat} (k : w.heap[h]? = some (.cells #[.int .i64 0, .slice none 0 0, .int .i64 0, .int .i64 0, .slice none 0 0, .bool false] 35 (0, 0))) :
    w.cell? ⟨h, 0, none⟩ = some (.int .i64 0) ∧ w.cell? ⟨h, 1, none⟩ = some (.slice none 0 0) ∧ w.cell? ⟨h, 2, none⟩ = some (.int .i64 0) ∧ w.cell? ⟨h, 3, none⟩ = some (.int .i64 0) ∧ w.cell? ⟨h, 4, none⟩ = some (.slice none 0 0) ∧ w.cell? ⟨h, 5, none⟩ = some (.bool false) ∧
      w.frozen? ⟨h, 0, none⟩ = false ∧ w.frozen? ⟨h, 1, none⟩ = false ∧ w.frozen? ⟨h, 2, none⟩ = false ∧ w.frozen? ⟨h, 3, none⟩ = false ∧ w.frozen? ⟨h, 4, none⟩ = false ∧ w.frozen? ⟨h, 5, none⟩ = false := by
  refine ⟨?_, ?_, ?_, ?_, ?_, ?_, frozen_of_row w _ _ _ _ k, frozen_of_row w _ _ _ _ k, frozen_of_row w _ _ _ _ k, frozen_of_row w _ _ _ _ k, frozen_of_row w _ _ _ _ k, frozen_of_row w _ _ _ _ k⟩
  · rw [cell_of_row w h _ _ _ (0, 0) k]; rfl
  · rw [cell_of_row w h _ _ _ (0, 0) k]; rfl
  · rw [cell_of_row w h _ _ _ (0, 0) k]; rfl
  · rw [cell_of_row w h _ _ _ (0, 0) k]; rfl
  · rw [cell_of_row w h _ _ _ (0, 0) k]; rfl
  · rw [cell_of_row w h _ _ _ (0, 0) k]; rfl

set_option maxHeartbeats 1000000 in
theorem hop_not {w : World} {B g : Nat} {room : Int} {v : Value} {ts : List (Value × Int)} (id : Int) (f : Form) (hf : valAt ts id = f.val) (hk : f.kind ≠ 3) (h : PoolAt w B g room v ts) :
    Calls Try.prog 14 #[.pointer (some ⟨g, 0, none⟩), .int .i64 id] w fun e w' =>
      ∃ vl vr, e = .returned (.tuple #[.agg #[.int .i64 0, vl, .int .i64 0, .int .i64 0, vr, .bool false], .bool false]) ∧ w'.ownsRow w.heap.size 3 1 vl 0 (flatE int1 []) ∧ w'.ownsRow w.heap.size 3 1 vr 0 (flatE int1 []) ∧ Below w.heap.size w w' := by
  have HV := fun W (hb : Below w.heap.size w W) => value_any id (h.mono hb)
  rw [hf] at HV
  have HV := Lib.hid HV
  have HC := Lib.hid (fun W => copied_any 0 0 0 none none 0 0 0 0 false [] [] W (Rd.nil _ _) (Rd.nil _ _) (by decide) (by decide))
  clear hf h
  cases f <;> first | exact absurd rfl hk | (
    unfold Form.val at HV
    go_enter Try.func14, Try.ntmps14
    go_wp2_with fail
    refine (HV.out _ (by go_grown)).mono ?_
    rintro e w1 ⟨rfl, rfl⟩
    go_wp2_with fail
    refine (HC.out _).mono ?_
    rintro e w2 ⟨vl, vr, rfl, hol, hor, hb⟩
    obtain ⟨Al, cl, rfl, -, -⟩ := Rd.of_own int1_len (by decide) hol
    obtain ⟨Ar, cr, rfl, -, -⟩ := Rd.of_own int1_len (by decide) hor
    have HB := Lib.hid hb
    have HO := Lib.hid (And.intro hol hor)
    obtain ⟨r0, r1, r2, r3, r4, r5, s0, s1, s2, s3, s4, s5⟩ := zero_box (h := w.heap.size) (w := w2) ((hb.block _ (by first | (simp; done) | (simp; omega))).trans (heap_alloc2_old _ _ _))
    clear hb hol hor
    go_wp2
    refine bodyPost_ret (by simp [results, Try.results14, go_sem, r0, r1, r2, r3, r4, r5]; try rfl) rfl ?_
    refine ⟨_, _, rfl, own_mono (base := w.heap.size + 1) ?_ (by omega), own_mono (base := w.heap.size + 1) ?_ (by omega), ?_⟩
    · refine ownsRow_setCell_below (ownsRow_setCell_below (ownsRow_setCell_below (ownsRow_setCell_below (ownsRow_setCell_below (ownsRow_setCell_below ?_ (by simp) _) (by simp) _) (by simp) _) (by simp) _) (by simp) _) (by simp) _
      exact own_mono HO.out.1 (by first | (simp; done) | (simp; omega))
    · refine ownsRow_setCell_below (ownsRow_setCell_below (ownsRow_setCell_below (ownsRow_setCell_below (ownsRow_setCell_below (ownsRow_setCell_below ?_ (by simp) _) (by simp) _) (by simp) _) (by simp) _) (by simp) _) (by simp) _
      exact own_mono HO.out.2 (by first | (simp; done) | (simp; omega))
    · exact ((((((below_step (by go_grown) HB.out : Below w.heap.size w w2).setCell (by simp) _).setCell (by simp) _).setCell (by simp) _).setCell (by simp) _).setCell (by simp) _).setCell (by simp) _)

set_option maxHeartbeats 1000000 in
theorem hop_at {w : World} {B g : Nat} {room : Int} {v : Value} {ts : List (Value × Int)} (id op port backup : Int) (L R : Option Addr) (ln lc rn rc : Nat) (pipe : Bool) (ll rl : List Int) (hl : Rd int1 1 w L ln ll) (hr : Rd int1 1 w R rn rl) (hln : ln ≤ 1000000) (hrn : rn ≤ 1000000)
    (hf : valAt ts id = (Form.hop op L ln lc port backup R rn rc pipe).val) (h : PoolAt w B g room v ts) :
    Calls Try.prog 14 #[.pointer (some ⟨g, 0, none⟩), .int .i64 id] w fun e w' =>
      ∃ vl vr, e = .returned (.tuple #[.agg #[.int .i64 op, vl, .int .i64 port, .int .i64 backup, vr, .bool pipe], .bool true]) ∧ w'.ownsRow w.heap.size 3 1 vl ln (flatE int1 ll) ∧ w'.ownsRow w.heap.size 3 1 vr rn (flatE int1 rl) ∧ Below w.heap.size w w' := by
  have HV := fun W (hb : Below w.heap.size w W) => value_any id (h.mono hb)
  rw [hf] at HV
  have HV := Lib.hid HV
  have HC := Lib.hid (fun W (hb : Below w.heap.size w W) => copied_any op port backup L R ln lc rn rc pipe ll rl W (hl.below hb) (hr.below hb) hln hrn)
  clear hf h hl hr
  unfold Form.val at HV
  go_enter Try.func14, Try.ntmps14
  go_wp2_with fail
  refine (HV.out _ (by go_grown)).mono ?_
  rintro e w1 ⟨rfl, rfl⟩
  go_wp2_with fail
  refine (HC.out _ (by go_grown)).mono ?_
  rintro e w2 ⟨vl, vr, rfl, hol, hor, hb⟩
  obtain ⟨Al, cl, rfl, -, -⟩ := Rd.of_own int1_len (by decide) hol
  obtain ⟨Ar, cr, rfl, -, -⟩ := Rd.of_own int1_len (by decide) hor
  have HB := Lib.hid hb
  have HO := Lib.hid (And.intro hol hor)
  obtain ⟨r0, r1, r2, r3, r4, r5, s0, s1, s2, s3, s4, s5⟩ := zero_box (h := w.heap.size) (w := w2) ((hb.block _ (by first | (simp; done) | (simp; omega))).trans (heap_alloc2_old _ _ _))
  clear hb hol hor
  go_wp2
  refine bodyPost_ret (by simp [results, Try.results14, go_sem, r0, r1, r2, r3, r4, r5]; try rfl) rfl ?_
  refine ⟨_, _, rfl, own_mono (base := w.heap.size + 1) ?_ (by omega), own_mono (base := w.heap.size + 1) ?_ (by omega), ?_⟩
  · refine ownsRow_setCell_below (ownsRow_setCell_below (ownsRow_setCell_below (ownsRow_setCell_below (ownsRow_setCell_below (ownsRow_setCell_below ?_ (by simp) _) (by simp) _) (by simp) _) (by simp) _) (by simp) _) (by simp) _
    exact own_mono HO.out.1 (by first | (simp; done) | (simp; omega))
  · refine ownsRow_setCell_below (ownsRow_setCell_below (ownsRow_setCell_below (ownsRow_setCell_below (ownsRow_setCell_below (ownsRow_setCell_below ?_ (by simp) _) (by simp) _) (by simp) _) (by simp) _) (by simp) _) (by simp) _
    exact own_mono HO.out.2 (by first | (simp; done) | (simp; omega))
  · exact ((((((below_step (by go_grown) HB.out : Below w.heap.size w w2).setCell (by simp) _).setCell (by simp) _).setCell (by simp) _).setCell (by simp) _).setCell (by simp) _).setCell (by simp) _

end Go.Proofs.Ytifadjakpllpfaa
