/-
  Rows of links that grow; the reference's Without, walked.
-/
import Derived.Test.YtmdcfiejkbhgpaaRCost
namespace Go.Proofs.Ytmdcfiejkbhgpaa
open Go.RowKit

/-- v is a row of these links, from B on -/
def LksAt (w : World) (B : Nat) (v : Value) (l : List Lk) : Prop := w.ownsRow B 34 3 v l.length (flatE lkc l)
theorem lksAt_nil (w : World) (B : Nat) : LksAt w B (.slice none 0 0) [] := World.ownsRow_nil _ _ _ _
theorem LksAt.below {w w' : World} {B : Nat} {v : Value} {l : List Lk} (h : LksAt w B v l) (hb : Below w.heap.size w w') : LksAt w' B v l := own_below h hb
theorem LksAt.rd {w : World} {B : Nat} {v : Value} {l : List Lk} (h : LksAt w B v l) : ∃ A c, v = .slice A l.length c ∧ Rd lkc 3 w A l.length l := by
  obtain ⟨A, c, hv, -, hr⟩ := Rd.of_own lkc_len (by decide) (show w.ownsRow B 34 3 v l.length (flatE lkc l) from h)
  exact ⟨A, c, hv, hr⟩
theorem lksAt_app {w0 w w' : World} {v : Value} {l : List Lk} (hb : Below w0.heap.size w0 w) (hown : LksAt w w0.heap.size v l) (hg : w.grownBy w' v.ownBlock) : Below w0.heap.size w0 w' := hb.grown hg hb.size (fun k hk => (hown.lt k hk).1)
theorem one_link (w : World) (f t c : Int) : ∀ j u, (lkc ⟨f, t, c⟩)[j]? = some u → (w.alloc (.cells #[.int .i64 f, .int .i64 t, .int .i64 c] 34)).cell? ((⟨w.heap.size, 0, none⟩ : Addr).add j) = some u := new_cells w (lkc ⟨f, t, c⟩) 34
theorem Try.info_link : (Try.prog.info? 34).map (fun i => (i.zero, i.size, i.bytes)) = some (some (.agg #[.int .i64 0, .int .i64 0, .int .i64 0]), 3, 24) := by kernel_rfl

/-- a link put behind a row of the call's own -/
theorem app_link {ops : Array Oper} {rest : List Oper} {o : Oper} {a : Act} {w : World} {Q : Exit → Act → World → Prop} (hgd : o.guard = none) (s x : Operand)
    (ho : o.op = .call { callee := .builtin .append, args := #[s, x], argTypes := #[22, 22] })
    (B : Nat) (v : Value) (l : List Lk) (z : Lk) (hs : a.eval s = v) (hown : LksAt w B v l) (b : Nat) (hx : a.eval x = .slice (some ⟨b, 0, none⟩) 1 1) (hr : ∀ j u, (lkc z)[j]? = some u → w.cell? ((⟨b, 0, none⟩ : Addr).add j) = some u)
    (hsz : l.length ≤ 1000000) (hB : B ≤ w.heap.size)
    (h : ∀ v' w', LksAt w' B v' (l ++ [z]) → w.grownBy w' v.ownBlock → wpList Try.prog ops Q rest (a.put o.dst v') w') : wpList Try.prog ops Q (o :: rest) a w := by
  obtain ⟨i0, hi, hz0, hz1, hz2⟩ := info_parts Try.info_link
  refine wpList_append_own_at w hgd s x 22 ho B 34 i0 (.agg #[.int .i64 0, .int .i64 0, .int .i64 0]) 3 24 Try.underlying22 hi hz0 hz1 hz2 rfl (by decide) v _ _ hs hown ⟨b, 0, none⟩ 1 1 (lkc z) hx rfl hr (lkc_one z) (by unfold maxLen; omega) (by omega) hB ?_
  intro v' w' hown' hg _ _
  refine h v' w' ?_ hg
  unfold LksAt
  rw [flatE_append, List.length_append]
  have e : flatE lkc [z] = lkc z := by simp [flatE]
  rw [e]
  exact hown'

def keepB (a b : Int) (x : Lk) : Bool := !((x.f == a) && (x.t == b)) && !((x.f == b) && (x.t == a))
/-- the links but those between a and b -/
def withoutG (l : List Lk) (a b : Int) : List Lk := l.filter (keepB a b)
def preW (l : List Lk) (a b : Int) (i : Nat) : List Lk := (l.take i).filter (keepB a b)
theorem preW_step {l : List Lk} {a b : Int} {i : Nat} {x : Lk} (hx : l[i]? = some x) : preW l a b (i + 1) = preW l a b i ++ (if keepB a b x = true then [x] else []) := by
  unfold preW
  rw [List.take_add_one, hx, List.filter_append]
  congr 1
  by_cases h : keepB a b x = true <;> simp [h]
theorem preW_all {l : List Lk} {a b : Int} {i : Nat} (hi : l.length ≤ i) : preW l a b i = withoutG l a b := by
  unfold preW withoutG
  rw [List.take_of_length_le hi]
theorem preW_len (l : List Lk) (a b : Int) (i : Nat) : (preW l a b i).length ≤ i := by
  have h1 := List.length_filter_le (keepB a b) (l.take i)
  have h2 : (l.take i).length ≤ i := by rw [List.length_take]; omega
  unfold preW
  omega

set_option linter.unusedSimpArgs false in
set_option maxRecDepth 100000 in
set_option maxHeartbeats 8000000 in
theorem rwithout_any {w : World} {A : Option Addr} {m c : Nat} {l : List Lk} (hl : Rd lkc 3 w A m l) (a b : Int) (hm : m ≤ 1000) :
    Calls Try.prog 26 #[.slice A m c, .int .i64 a, .int .i64 b] w fun e w' => ∃ v, e = .returned v ∧ LksAt w' w.heap.size v (withoutG l a b) ∧ Below w.heap.size w w' := by
  have HL := Lib.hid hl
  have HM := Lib.hid hl.1
  have hbw : Below w.heap.size w w := Below.refl _ _
  clear hl
  go_enter Try.func26, Try.ntmps26
  go_wp2_with fail
  go_loopw [7, 8] (fun o v wr => ∃ i : Nat, i ≤ m ∧ v = .int .i64 i ∧ LksAt wr w.heap.size o (preW l a b i) ∧ Below w.heap.size w wr) (fun _ v _ => m - (intOf v).toNat)
  case atStart => exact ⟨0, Nat.zero_le _, rfl, lksAt_nil _ _, hbw⟩
  case round =>
    rename_i u7 u8
    obtain ⟨i, hi, rfl, hown, hbr⟩ := hrel
    have HO := Lib.hid hown
    have HB := Lib.hid hbr
    have hlen := preW_len l a b i
    clear hown hbr
    have hi0 : (0 : Int) ≤ i := by omega
    by_cases hlt : i < m
    · obtain ⟨⟨xf, xt, xc⟩, b1, off, hx, rfl, hcell⟩ := (HL.out.below HB.out).at_ hlt
      have hi1 : (i : Int) < m := by omega
      have c0 := hcell 0 _ rfl
      have c1 := hcell 1 _ rfl
      have c2 := hcell 2 _ rfl
      rw [Nat.add_zero] at c0
      simp only at c0 c1 c2
      have hst := preW_step (a := a) (b := b) hx
      have HKB := Lib.hid (show keepB a b ⟨xf, xt, xc⟩ = (!((xf == a) && (xt == b)) && !((xf == b) && (xt == a))) from rfl)
      have HST := Lib.hid hst
      have hlen6 : (preW l a b i).length ≤ 1000000 := by omega
      clear hx hcell hst
      go_upto_region 6 with fail
      have HBX := Lib.hid (show BoxL (wr.alloc (.cells #[.int .i64 xf, .int .i64 xt, .int .i64 xc] 34)) wr.heap.size xf xt xc from heap_alloc_new _ _)
      have HBA := Lib.hid (HB.out.alloc HB.out.size (.cells #[.int .i64 xf, .int .i64 xt, .int .i64 xc] 34))
      have HOA := Lib.hid (HO.out.below (below_al1 wr (.cells #[.int .i64 xf, .int .i64 xt, .int .i64 xc] 34)))
      generalize hA : wr.heap.size = bl at HBX ⊢
      clear hA
      generalize World.alloc _ _ = wa at HBX HBA HOA ⊢
      clear c0 c1 c2 HO HB
      obtain ⟨q, q0, q1, q2⟩ := HBX.out.cells
      generalize hp1 : (xf == a) = p1 at HKB
      generalize hp2 : (xt == b) = p2 at HKB
      generalize hp3 : (xf == b) = p3 at HKB
      generalize hp4 : (xt == a) = p4 at HKB
      cases p1 <;> cases p2 <;> cases p3 <;> cases p4 <;> (
        replace HST := Lib.hid (HST.out.trans (by rw [HKB.out]))
        clear HKB
        simp only [Bool.and_true, Bool.and_false, Bool.true_and, Bool.false_and, Bool.not_true, Bool.not_false, if_true, Bool.false_eq_true, if_false, List.append_nil] at HST
        go_wp2_with (at_builtin; refine app_link rfl (.tmp 44) (.tmp 46) rfl w.heap.size _ _ ⟨xf, xt, xc⟩ rfl (HOA.out.below (below_al1 _ _)) wa.heap.size rfl (one_link _ _ _ _) hlen6 (HBA.out.alloc HBA.out.size _).size ?_; intro v2 w2 hown2 hg2; have HO2 := Lib.hid hown2; have HB2 := Lib.hid (lksAt_app (HBA.out.alloc HBA.out.size _) (HOA.out.below (below_al1 _ _)) hg2); clear hown2 hg2)
        go_roundw
        case rel => first
          | exact ⟨i + 1, by omega, by go_num, by rw [HST.out]; exact HOA.out, HBA.out⟩
          | exact ⟨i + 1, by omega, by go_num, by rw [HST.out]; exact HO2.out, HB2.out⟩
        case measure => simp [intOf]; omega)
    · have hge : ¬ (i : Int) < m := by omega
      have HE := Lib.hid (preW_all (l := l) (a := a) (b := b) (i := i) (by rw [HM.out]; omega))
      clear hi hlt hi0
      go_wp2_with fail
      go_ret
      exact ⟨_, rfl, by rw [← HE.out]; exact HO.out, HB.out⟩
end Go.Proofs.Ytmdcfiejkbhgpaa
