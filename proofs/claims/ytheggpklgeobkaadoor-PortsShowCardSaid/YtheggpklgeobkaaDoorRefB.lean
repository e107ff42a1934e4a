/-
  The reference's row of interfaces, walked: Up, Mtu, Add, Remove, Set.
-/
import Derived.Test.YtheggpklgeobkaaDoorRef
import Derived.Laws.AppendOwnNone
namespace Go.Proofs.YtheggpklgeobkaaDoor
open Go.RowKit

def upL (l : List Pe) (n : Int) : Bool := if isL l n then (match l[posL l n]? with | some e => e.up | none => false) else false
def mtuL (l : List Pe) (n : Int) : Int := if isL l n then (match l[posL l n]? with | some e => e.mtu | none => 0) else 0
theorem upL_lst (S : PS) (n : Int) : upL (lst S) n = upS S n := by
  by_cases h : inP n
  · obtain ⟨k, rfl, hk⟩ := nat_of_inP h
    unfold upL upS
    rw [is_lst S hk]
    cases hs : S k with
    | none => simp [hs]
    | some x => rw [pos_lst S hk, lst_at hk hs]; simp [h, hs]
  · unfold upL upS
    rw [is_out S h]
    simp [h]
theorem mtuL_lst (S : PS) (n : Int) : mtuL (lst S) n = mtuS S n := by
  by_cases h : inP n
  · obtain ⟨k, rfl, hk⟩ := nat_of_inP h
    unfold mtuL mtuS
    rw [is_lst S hk]
    cases hs : S k with
    | none => simp [hs]
    | some x => rw [pos_lst S hk, lst_at hk hs]; simp [h, hs]
  · unfold mtuL mtuS
    rw [is_out S h]
    simp [h]
theorem is_at {l : List Pe} {n : Int} (h : isL l n = true) : ∃ e, l[posL l n]? = some e ∧ e.num = n := by
  unfold isL at h
  cases he : l[posL l n]? with
  | none => rw [he] at h; cases h
  | some e => rw [he] at h; exact ⟨e, rfl, by simpa using h⟩

set_option maxRecDepth 100000 in
set_option maxHeartbeats 1000000 in
theorem rup_any {w : World} {A : Option Addr} {m c : Nat} {l : List Pe} (hr : Rd pen 3 w A m l) (n : Int) (hm : m ≤ 1000000) :
    Calls Tryd.prog 20 #[.slice A m c, .int .i64 n] w fun e w' => e = .returned (.bool (upL l n)) ∧ Below w.heap.size w w' := by
  have HF := Lib.hid (find_any (c := c) hr n hm)
  have HB := Lib.hid (fun nd => show Below w.heap.size w (w.drewN nd) from ⟨rfl, rfl, rfl, Nat.le_refl _, fun _ _ => rfl⟩)
  cases hi : isL l n with
  | false =>
    have HU := Lib.hid (show upL l n = false by unfold upL; rw [hi]; rfl)
    rw [hi] at HF
    clear hr hi
    go_enter Tryd.func20, Tryd.ntmps20
    go_wp2_with (go_at_call 30; refine (HF.out).mono ?_; rintro e w' ⟨rfl, nd, rfl⟩)
    go_ret
    rw [HU.out]
    exact ⟨rfl, HB.out _⟩
  | true =>
    obtain ⟨x, hx, hn⟩ := is_at hi
    have HU := Lib.hid (show upL l n = x.up by unfold upL; rw [hi, hx]; rfl)
    rw [hi] at HF
    obtain ⟨b, off, hA, hc⟩ := hr.2 _ x hx
    have hlt : posL l n < m := by have := (List.getElem?_eq_some_iff.1 hx).1; have := hr.1; omega
    subst hA
    have c2 := hc 2 _ rfl
    generalize posL l n = k at *
    have hk0 : (0 : Int) ≤ k := by omega
    have hk1 : (k : Int) < m := by omega
    clear hr hi hx hc
    go_enter Tryd.func20, Tryd.ntmps20
    go_wp2_with (go_at_call 30; refine (HF.out).mono ?_; rintro e w' ⟨rfl, nd, rfl⟩)
    go_ret
    rw [HU.out]
    exact ⟨rfl, HB.out _⟩
set_option maxRecDepth 100000 in
set_option maxHeartbeats 1000000 in
theorem rmtu_any {w : World} {A : Option Addr} {m c : Nat} {l : List Pe} (hr : Rd pen 3 w A m l) (n : Int) (hm : m ≤ 1000000) :
    Calls Tryd.prog 21 #[.slice A m c, .int .i64 n] w fun e w' => e = .returned (.int .i64 (mtuL l n)) ∧ Below w.heap.size w w' := by
  have HF := Lib.hid (find_any (c := c) hr n hm)
  have HB := Lib.hid (fun nd => show Below w.heap.size w (w.drewN nd) from ⟨rfl, rfl, rfl, Nat.le_refl _, fun _ _ => rfl⟩)
  cases hi : isL l n with
  | false =>
    have HU := Lib.hid (show mtuL l n = 0 by unfold mtuL; rw [hi]; rfl)
    rw [hi] at HF
    clear hr hi
    go_enter Tryd.func21, Tryd.ntmps21
    go_wp2_with (go_at_call 30; refine (HF.out).mono ?_; rintro e w' ⟨rfl, nd, rfl⟩)
    go_ret
    rw [HU.out]
    exact ⟨rfl, HB.out _⟩
  | true =>
    obtain ⟨x, hx, hn⟩ := is_at hi
    have HU := Lib.hid (show mtuL l n = x.mtu by unfold mtuL; rw [hi, hx]; rfl)
    rw [hi] at HF
    obtain ⟨b, off, hA, hc⟩ := hr.2 _ x hx
    have hlt : posL l n < m := by have := (List.getElem?_eq_some_iff.1 hx).1; have := hr.1; omega
    subst hA
    have c1 := hc 1 _ rfl
    generalize posL l n = k at *
    have hk0 : (0 : Int) ≤ k := by omega
    have hk1 : (k : Int) < m := by omega
    clear hr hi hx hc
    go_enter Tryd.func21, Tryd.ntmps21
    go_wp2_with (go_at_call 30; refine (HF.out).mono ?_; rintro e w' ⟨rfl, nd, rfl⟩)
    go_ret
    rw [HU.out]
    exact ⟨rfl, HB.out _⟩

theorem Tryd.info_p16 : (Tryd.prog.info? 56).map (fun i => (i.zero, i.size, i.bytes)) = some (some (.agg #[.int .i64 0, .int .i64 0, .bool false]), 3, 24) := by kernel_rfl
theorem info_parts {o : Option TypeInfo} {z : Option Value} {n m : Nat} (h : o.map (fun i => (i.zero, i.size, i.bytes)) = some (z, n, m)) : ∃ i, o = some i ∧ i.zero = z ∧ i.size = n ∧ i.bytes = m := by
  cases o with
  | none => simp at h
  | some i => simp at h; exact ⟨i, rfl, h.1, h.2.1, h.2.2⟩

/-- a row's elements put behind a row of the call's own -/
theorem app_rd {ops : Array Oper} {rest : List Oper} {o : Oper} {a : Act} {w : World} {Q : Exit → Act → World → Prop} (hgd : o.guard = none) (s x : Operand)
    (ho : o.op = .call { callee := .builtin .append, args := #[s, x], argTypes := #[26, 26] })
    (B : Nat) (v : Value) (l ys : List Pe) (hs : a.eval s = v) (hown : RowAt w B v l) (A : Option Addr) (m c : Nat) (hx : a.eval x = .slice A m c) (hr : Rd pen 3 w A m ys) (hA : A = none → c = 0)
    (hsz : l.length + m ≤ 1000000) (hB : B ≤ w.heap.size)
    (h : ∀ v' w', RowAt w' B v' (l ++ ys) → w.grownBy w' v.ownBlock → wpList Tryd.prog ops Q rest (a.put o.dst v') w') : wpList Tryd.prog ops Q (o :: rest) a w := by
  obtain ⟨i0, hi, hz0, hz1, hz2⟩ := info_parts Tryd.info_p16
  cases A with
  | none =>
    obtain ⟨rfl, rfl⟩ := hr.nil_of
    obtain rfl := hA rfl
    exact wpList_append_own_none hgd s x 26 ho B 56 i0 3 Tryd.underlying26 hi v _ _ hs hown hx (h v w (by rw [List.append_nil]; exact hown) (World.grownBy.refl w _))
  | some ad =>
    refine wpList_append_own_at w hgd s x 26 ho B 56 i0 (.agg #[.int .i64 0, .int .i64 0, .bool false]) 3 24 Tryd.underlying26 hi hz0 hz1 hz2 rfl (by decide) v _ _ hs hown ad m c (flatE pen ys) hx (by rw [flatE_length pen_len, hr.1]) ?_ (flatE_one' (hone := pen_one) ys) (by unfold maxLen; omega) (by omega) hB ?_
    · intro j u hu
      cases ys with
      | nil => simp [flatE] at hu
      | cons y ys =>
        obtain ⟨b, off, hA', _⟩ := hr.2 0 y rfl
        cases hA'
        exact hr.cells pen_len (by decide) j u hu
    · intro v' w' hown' hg _ _
      refine h v' w' ?_ hg
      unfold RowAt
      rw [flatE_append, List.length_append, hr.1]
      exact hown'

/-- the call answers e, and gives a row that reads as the interfaces S -/
def Gives (w : World) (B : Nat) (S : PS) (e : Int) (en : Ending) (w' : World) : Prop := ∃ v, en = .returned (.tuple #[v, .int .i64 e]) ∧ RowAt w' B v (lst S) ∧ Below w.heap.size w w'
theorem gives_no {w w' : World} {B : Nat} {v : Value} {S T : PS} {e : Int} (h : RowAt w B v (lst S)) (hST : S = T) (hb : Below w.heap.size w w') : Gives w B T e (.returned (.tuple #[v, .int .i64 e])) w' :=
  ⟨v, rfl, by subst hST; exact h.below hb, hb⟩
theorem rd_take {w : World} {A : Option Addr} {m k : Nat} {l : List Pe} (h : Rd pen 3 w A m l) (hk : k ≤ m) : Rd pen 3 w A k (l.take k) := h.take hk
theorem rd_drop {w : World} {b m k : Nat} {l : List Pe} (h : Rd pen 3 w (some ⟨b, 0, none⟩) m l) : Rd pen 3 w (some ⟨b, k * 3, none⟩) (m - k) (l.drop k) :=
  ⟨by rw [List.length_drop, h.1], fun i x hx => by
    rw [List.getElem?_drop] at hx
    obtain ⟨b', off, hA, hc⟩ := h.2 _ x hx
    cases hA
    refine ⟨b, k * 3, rfl, fun j u hu => ?_⟩
    have := hc j u hu
    rwa [show 0 + (k + i) * 3 + j = k * 3 + i * 3 + j by omega] at this⟩

theorem rd_of {w : World} {B g n c : Nat} {l : List Pe} (h : RowAt w B (.slice (some ⟨g, 0, none⟩) n c) l) : Rd pen 3 w (some ⟨g, 0, none⟩) l.length l := by
  obtain ⟨A, c', hv, -, hr⟩ := h.rd
  cases hv
  exact hr
theorem rd_one (w : World) (e : Pe) : Rd pen 3 (w.alloc (.cells #[.int .i64 e.num, .int .i64 e.mtu, .bool e.up] 56)) (some ⟨w.heap.size, 0, none⟩) 1 [e] := by
  refine ⟨rfl, fun i x hx => ⟨w.heap.size, 0, rfl, fun j u hu => ?_⟩⟩
  have hi : i = 0 := by have := (List.getElem?_eq_some_iff.1 hx).1; simp at this; exact this
  subst hi
  cases hx
  rw [cell_of_row _ _ _ _ _ (0, 0) (heap_alloc_new _ _)]
  rw [← hu]
  simp [pen]
theorem rd_zero {w : World} {A : Option Addr} {m : Nat} (h : m = 0) : Rd pen 3 w A m [] := by subst h; exact Rd.nil _ _
theorem below_al1 (w : World) (o : Obj) : Below w.heap.size w (w.alloc o) := by go_grown
theorem below_app {w0 w w' : World} {v : Value} {l : List Pe} (hb : Below w0.heap.size w0 w) (hown : RowAt w w0.heap.size v l) (hg : w.grownBy w' v.ownBlock) : Below w0.heap.size w0 w' := hb.grown hg hb.size (fun k hk => (hown.lt k hk).1)

set_option maxRecDepth 100000 in
set_option maxHeartbeats 2000000 in
theorem radd_any {w : World} {B : Nat} {v : Value} {S : PS} (hv : RowAt w B v (lst S)) (hB : B ≤ w.heap.size) (n mtu : Int) :
    Calls Tryd.prog 17 #[v, .int .i64 n, .int .i64 mtu] w (Gives w B (addS S n mtu) (addE S n mtu)) := by
  have HV := Lib.hid hv
  have hl := lst_len S
  have hbw : Below w.heap.size w w := Below.refl _ _
  by_cases h : inP n
  · obtain ⟨k, rfl, hk⟩ := nat_of_inP h
    have hk0 : (0 : Int) ≤ k := by omega
    have hk1 : (k : Int) ≤ 63 := by omega
    by_cases hm : mtu < 68 ∨ 65535 < mtu
    · have HE := Lib.hid (show addE S k mtu = 1 by simp [addE, h, hm])
      have HS := Lib.hid (show S = addS S k mtu by simp [addS, HE.out])
      clear h hk hv
      rcases hm with hm | hm
      · go_enter Tryd.func17, Tryd.ntmps17
        go_wp2_with fail
        go_ret2
        rw [HE.out]
        exact gives_no HV.out HS.out hbw
      · have hm' : decide (mtu < 68) = false := by simp; omega
        go_enter Tryd.func17, Tryd.ntmps17
        go_wp2_with fail
        go_ret2
        rw [HE.out]
        exact gives_no HV.out HS.out hbw
    · have hm1 : decide (mtu < 68) = false := by simp; omega
      have hm2 : decide (mtu > 65535) = false := by simp; omega
      obtain ⟨A, c, rfl, hcl, hr⟩ := hv.rd
      have HF := Lib.hid (find_any (c := c) hr k (by omega))
      have HIS := Lib.hid (is_lst S hk)
      rw [HIS.out] at HF
      cases hx : S k with
      | some x =>
        have HE := Lib.hid (show addE S k mtu = 32 by simp [addE, h, hm, hx])
        have HS := Lib.hid (show S = addS S k mtu by simp [addS, HE.out])
        rw [hx] at HF
        simp only [Option.isSome_some] at HF
        clear h hk hv hx hm HIS hr
        go_enter Tryd.func17, Tryd.ntmps17
        go_wp2_with (go_at_call 30; refine (HF.out).mono ?_; rintro e w' ⟨rfl, nd, rfl⟩)
        go_ret2
        rw [HE.out]
        exact gives_no HV.out HS.out ⟨rfl, rfl, rfl, Nat.le_refl _, fun _ _ => rfl⟩
      | none =>
        have HE := Lib.hid (show addE S k mtu = 0 by simp [addE, h, hm, hx])
        have HS := Lib.hid (show updP S k (some (mtu, true)) = addS S k mtu by rw [addS, if_pos HE.out]; rfl)
        have HL := Lib.hid (lst_add hk hx (mtu, true))
        rw [hx] at HF
        simp only [Option.isSome_none] at HF
        have HP := Lib.hid (pos_lst S hk)
        have hj : posL (lst S) (k : Int) ≤ (lst S).length := by rw [pos_lst S hk]; rw [lst_split S (k := k) (by omega)]; simp
        rw [← HP.out] at HL
        clear HP
        generalize posL (lst S) (k : Int) = j at *
        have hj0 : (0 : Int) ≤ j := by omega
        have hj1 : (j : Int) ≤ (lst S).length := by omega
        have hj2 : (j : Int) ≤ c := by omega
        have hcl' : ((lst S).length : Int) ≤ c := by omega
        clear h hk hx hm HIS hr hv
        rcases own_form HV.out with ⟨hA, hl0⟩ | ⟨g, cap, hA, -⟩
        · obtain ⟨rfl, -, rfl⟩ : A = none ∧ (lst S).length = 0 ∧ c = 0 := by simpa using hA
          obtain rfl : j = 0 := by omega
          have hS0 : lst S = [] := List.eq_nil_of_length_eq_zero hl0
          have HL' := Lib.hid (show [⟨(k : Int), mtu, true⟩] = lst (updP S k (some (mtu, true))) by rw [← HL.out, hS0]; rfl)
          rw [hS0] at HF HV
          clear HL hcl hj1 hj2 hcl' hl0 hj hl hS0 hj0
          simp only [List.length_nil] at HF
          go_enter Tryd.func17, Tryd.ntmps17
          go_wp2_with fail
          refine (HF.out).mono ?_
          rintro e w1 ⟨rfl, nd, rfl⟩
          have HB1 := Lib.hid (show Below w.heap.size w (w.drewN nd) from ⟨rfl, rfl, rfl, Nat.le_refl _, fun _ _ => rfl⟩)
          generalize w.drewN nd = w1 at HB1 ⊢
          go_wp2_with (first
            | (at_builtin; refine app_rd rfl (.tmp 33) _ rfl w.heap.size (.slice none 0 0) [] [] rfl (rowAt_nil _ _) none 0 0 rfl (Rd.nil _ _) (fun _ => rfl) (by simp) HB1.out.size ?_; intro v1 w2 hown1 hg1; have HO1 := Lib.hid hown1; have HB2 := Lib.hid (below_app HB1.out (rowAt_nil _ _) hg1); clear hown1 hg1)
            | (at_builtin; refine app_rd rfl (.tmp 38) _ rfl w.heap.size v1 [] [⟨k, mtu, true⟩] rfl (HO1.out.below (below_al1 _ _)) (some ⟨w2.heap.size, 0, none⟩) 1 1 rfl (rd_one _ _) (fun h => by cases h) (by simp) (HB2.out.alloc HB2.out.size _).size ?_; intro v2 w3 hown2 hg2; have HO2 := Lib.hid hown2; have HB3 := Lib.hid (below_app (HB2.out.alloc HB2.out.size _) (HO1.out.below (below_al1 _ _)) hg2); clear hown2 hg2)
            | (at_builtin; refine app_rd rfl (.tmp 44) _ rfl w.heap.size v2 _ [] rfl HO2.out none 0 0 rfl (Rd.nil _ _) (fun _ => rfl) (by simp) HB3.out.size ?_; intro v3 w4 hown3 hg3; have HO3 := Lib.hid hown3; have HB4 := Lib.hid (below_app HB3.out HO2.out hg3); clear hown3 hg3))
          go_ret2
          rw [HE.out]
          refine ⟨_, rfl, ?_, HB4.out⟩
          rw [← HS.out, ← HL'.out]
          exact own_mono HO3.out hB
        · cases hA
          by_cases hjc : j = c
          · subst hjc
            go_enter Tryd.func17, Tryd.ntmps17
            go_wp2_with fail
            refine (HF.out).mono ?_
            rintro e w1 ⟨rfl, nd, rfl⟩
            have HV1 := Lib.hid (HV.out.drewN nd)
            have HB1 := Lib.hid (show Below w.heap.size w (w.drewN nd) from ⟨rfl, rfl, rfl, Nat.le_refl _, fun _ _ => rfl⟩)
            generalize w.drewN nd = w1 at HV1 HB1 ⊢
            go_wp2_with (first
              | (at_builtin; refine app_rd rfl (.tmp 33) _ rfl w.heap.size (.slice none 0 0) [] ((lst S).take j) rfl (rowAt_nil _ _) (some ⟨g, 0, none⟩) j j rfl (rd_take (rd_of HV1.out) (by omega)) (fun h => by cases h) (by simp; omega) HB1.out.size ?_; intro v1 w2 hown1 hg1; have HO1 := Lib.hid hown1; have HB2 := Lib.hid (below_app HB1.out (rowAt_nil _ _) hg1); clear hown1 hg1)
              | (at_builtin; refine app_rd rfl (.tmp 38) _ rfl w.heap.size v1 _ [⟨k, mtu, true⟩] rfl (HO1.out.below (below_al1 _ _)) (some ⟨w2.heap.size, 0, none⟩) 1 1 rfl (rd_one _ _) (fun h => by cases h) (by simp; omega) (HB2.out.alloc HB2.out.size _).size ?_; intro v2 w3 hown2 hg2; have HO2 := Lib.hid hown2; have HB3 := Lib.hid (below_app (HB2.out.alloc HB2.out.size _) (HO1.out.below (below_al1 _ _)) hg2); clear hown2 hg2)
              | (at_builtin; refine app_rd rfl (.tmp 44) _ rfl w.heap.size v2 _ [] rfl HO2.out (some ⟨g, 0, none⟩) _ _ rfl (rd_zero (by omega)) (fun h => by cases h) (by simp; omega) HB3.out.size ?_; intro v3 w4 hown3 hg3; have HO3 := Lib.hid hown3; have HB4 := Lib.hid (below_app HB3.out HO2.out hg3); clear hown3 hg3))
            go_ret2
            rw [HE.out]
            refine ⟨_, rfl, ?_, HB4.out⟩
            rw [← HS.out, ← HL.out]
            have := own_mono HO3.out hB
            rw [List.drop_of_length_le (by omega)]
            exact this
          · go_enter Tryd.func17, Tryd.ntmps17
            go_wp2_with fail
            refine (HF.out).mono ?_
            rintro e w1 ⟨rfl, nd, rfl⟩
            have HV1 := Lib.hid (HV.out.drewN nd)
            have HB1 := Lib.hid (show Below w.heap.size w (w.drewN nd) from ⟨rfl, rfl, rfl, Nat.le_refl _, fun _ _ => rfl⟩)
            have HW := Lib.hid HV.out
            generalize w.drewN nd = w1 at HV1 HB1 ⊢
            go_wp2_with (first
              | (at_builtin; refine app_rd rfl (.tmp 33) _ rfl w.heap.size (.slice none 0 0) [] ((lst S).take j) rfl (rowAt_nil _ _) (some ⟨g, 0, none⟩) j c rfl (rd_take (rd_of HV1.out) (by omega)) (fun h => by cases h) (by simp; omega) HB1.out.size ?_; intro v1 w2 hown1 hg1; have HO1 := Lib.hid hown1; have HB2 := Lib.hid (below_app HB1.out (rowAt_nil _ _) hg1); clear hown1 hg1)
              | (at_builtin; refine app_rd rfl (.tmp 38) _ rfl w.heap.size v1 _ [⟨k, mtu, true⟩] rfl (HO1.out.below (below_al1 _ _)) (some ⟨w2.heap.size, 0, none⟩) 1 1 rfl (rd_one _ _) (fun h => by cases h) (by simp; omega) (HB2.out.alloc HB2.out.size _).size ?_; intro v2 w3 hown2 hg2; have HO2 := Lib.hid hown2; have HB3 := Lib.hid (below_app (HB2.out.alloc HB2.out.size _) (HO1.out.below (below_al1 _ _)) hg2); clear hown2 hg2)
              | (at_builtin; refine app_rd rfl (.tmp 44) _ rfl w.heap.size v2 _ ((lst S).drop j) rfl HO2.out (some ⟨g, j * 3, none⟩) _ _ rfl (rd_drop (rd_of (HW.out.below HB3.out))) (fun h => by cases h) (by simp; omega) HB3.out.size ?_; intro v3 w4 hown3 hg3; have HO3 := Lib.hid hown3; have HB4 := Lib.hid (below_app HB3.out HO2.out hg3); clear hown3 hg3))
            go_ret2
            rw [HE.out]
            refine ⟨_, rfl, ?_, HB4.out⟩
            rw [← HS.out, ← HL.out]
            exact own_mono HO3.out hB
  · have HE := Lib.hid (show addE S n mtu = 50 by simp [addE, h])
    have HS := Lib.hid (show S = addS S n mtu by simp [addS, HE.out])
    unfold inP at h
    by_cases h0 : n < 0
    · clear h hv
      go_enter Tryd.func17, Tryd.ntmps17
      go_wp2_with fail
      go_ret2
      rw [HE.out]
      exact gives_no HV.out HS.out hbw
    · have h1 : 63 < n := by omega
      clear h hv
      go_enter Tryd.func17, Tryd.ntmps17
      go_wp2_with fail
      go_ret2
      rw [HE.out]
      exact gives_no HV.out HS.out hbw
end Go.Proofs.YtheggpklgeobkaaDoor
