/-
  The reference's Cost, walked.
-/
import Derived.Test.YtmdcfiejkbhgpaaREq
namespace Go.Proofs.Ytmdcfiejkbhgpaa
open Go.RowKit

theorem costF_snoc (l : List Lk) (b : Int) : ∀ (r : List Int) (a : Int), costF l a (r ++ [b]) = (costF l a r).bind fun c => (linkC l (r.getLastD a) b).map fun k => c + k
  | [], a => by
    show (linkC l a b).bind (fun k => (some 0).map fun c => k + c) = (some 0).bind fun c => (linkC l a b).map fun k => c + k
    cases linkC l a b <;> simp
  | x :: r, a => by
    have ih := costF_snoc l b r x
    have e : (x :: r).getLastD a = r.getLastD x := by cases r <;> rfl
    rw [List.cons_append, costF, ih, costF, e]
    cases linkC l a x with
    | none => rfl
    | some k =>
      cases costF l x r with
      | none => rfl
      | some c =>
        cases linkC l (r.getLastD x) b with
        | none => rfl
        | some d => simp; omega
theorem costF_cut (l : List Lk) (s : List Int) : ∀ (r : List Int) (a : Int), costF l a r = none → costF l a (r ++ s) = none
  | [], a, h => by cases h
  | x :: r, a, h => by
    rw [costF] at h
    rw [List.cons_append, costF]
    cases e : linkC l a x with
    | none => rfl
    | some k =>
      rw [e] at h
      cases e2 : costF l x r with
      | none => rw [costF_cut l s r x e2]; rfl
      | some c => rw [e2] at h; cases h
/-- no link costs overmuch -/
def Small (l : List Lk) : Prop := ∀ x ∈ l, -1099511627776 ≤ x.c ∧ x.c ≤ 1099511627776
theorem linkC_bd {l : List Lk} (h : Small l) {a b k : Int} (e : linkC l a b = some k) : -1099511627776 ≤ k ∧ k ≤ 1099511627776 := by
  unfold linkC at e
  cases hf : l.find? (fun x => x.f == a && x.t == b) with
  | none => rw [hf] at e; cases e
  | some x =>
    rw [hf] at e
    cases e
    exact h x (List.mem_of_find?_eq_some hf)
theorem costF_bd {l : List Lk} (h : Small l) : ∀ (r : List Int) (a c : Int), costF l a r = some c → -1099511627776 * (r.length : Int) ≤ c ∧ c ≤ 1099511627776 * (r.length : Int)
  | [], a, c, e => by cases e; simp
  | x :: r, a, c, e => by
    rw [costF] at e
    cases e1 : linkC l a x with
    | none => rw [e1] at e; cases e
    | some k =>
      cases e2 : costF l x r with
      | none => rw [e1, e2] at e; cases e
      | some d =>
        rw [e1, e2] at e
        cases e
        have h1 := linkC_bd h e1
        have h2 := costF_bd h r x d e2
        simp only [List.length_cons]
        omega
/-- the sum as far as node i of the way -/
def SumTo (l : List Lk) (a : Int) (r : List Int) (i : Nat) (s : Int) : Prop := costF l a (r.take i) = some s
theorem lastD_take (r : List Int) : ∀ (i : Nat) (a x : Int), (a :: r)[i]? = some x → (r.take i).getLastD a = x := by
  induction r with
  | nil =>
    intro i a x h
    cases i with
    | zero => simpa using h
    | succ i => simp at h
  | cons y r ih =>
    intro i a x h
    cases i with
    | zero => simpa using h
    | succ i =>
      have h' : (y :: r)[i]? = some x := by simpa using h
      have := ih i y x h'
      rw [List.take_succ_cons]
      have e : (y :: r.take i).getLastD a = (r.take i).getLastD y := by cases r.take i <;> rfl
      rw [e]
      exact this
theorem take_next {r : List Int} {i : Nat} {y : Int} (h : r[i]? = some y) : r.take (i + 1) = r.take i ++ [y] := by
  rw [List.take_add_one, h]
  rfl
theorem sumTo_next {l : List Lk} {a : Int} {r : List Int} {i : Nat} {s x y k : Int} (h : SumTo l a r i s) (hx : (a :: r)[i]? = some x) (hy : (a :: r)[i + 1]? = some y) (hk : linkC l x y = some k) : SumTo l a r (i + 1) (s + k) := by
  have hy' : r[i]? = some y := by simpa using hy
  unfold SumTo at *
  rw [take_next hy', costF_snoc, h, lastD_take r i a x hx]
  simp [hk]
theorem sumTo_none {l : List Lk} {a : Int} {r : List Int} {i : Nat} {s x y : Int} (h : SumTo l a r i s) (hx : (a :: r)[i]? = some x) (hy : (a :: r)[i + 1]? = some y) (hk : linkC l x y = none) : costG l (a :: r) = none := by
  have hy' : r[i]? = some y := by simpa using hy
  have h1 : costF l a (r.take (i + 1)) = none := by
    unfold SumTo at h
    rw [take_next hy', costF_snoc, h, lastD_take r i a x hx]
    simp [hk]
  have := costF_cut l (r.drop (i + 1)) _ a h1
  rwa [List.take_append_drop] at this
theorem sumTo_all {l : List Lk} {a : Int} {r : List Int} {i : Nat} {s : Int} (h : SumTo l a r i s) (hi : r.length ≤ i) : costG l (a :: r) = some s := by
  unfold SumTo at h
  rwa [List.take_of_length_le hi] at h
theorem sumTo_bd {l : List Lk} (hs : Small l) {a : Int} {r : List Int} {i : Nat} {s : Int} (h : SumTo l a r i s) (hi : i ≤ 1000) : -1099511627776000 ≤ s ∧ s ≤ 1099511627776000 := by
  have := costF_bd hs _ _ _ h
  have h2 : (r.take i).length ≤ i := by rw [List.length_take]; omega
  omega
/-- what Cost returns -/
def costV (l : List Lk) (p : List Int) : Value := .tuple #[.int .i64 ((costG l p).getD 0), .bool (costG l p).isSome]
/-- looking for the link from x to y: none so far, or it has been added -/
def Look (l : List Lk) (x y s0 : Int) (all : Int) (is : Bool) (k : Nat) : Prop := (is = false ∧ all = s0 ∧ NoLink l x y k) ∨ (is = true ∧ ∃ c, linkC l x y = some c ∧ all = s0 + c)
theorem look_start (l : List Lk) (x y s0 : Int) : Look l x y s0 s0 false 0 := .inl ⟨rfl, rfl, noLink_zero _ _ _⟩
theorem look_end {l : List Lk} {x y s0 all : Int} {k : Nat} (h : Look l x y s0 all false k) (hk : l.length ≤ k) : linkC l x y = none := by
  rcases h with ⟨_, _, h⟩ | ⟨h, _⟩
  · exact linkC_no h hk
  · cases h
theorem look_got {l : List Lk} {x y s0 all : Int} {k : Nat} (h : Look l x y s0 all true k) : ∃ c, linkC l x y = some c ∧ all = s0 + c := by
  rcases h with ⟨h, _⟩ | ⟨_, h⟩
  · cases h
  · exact h
theorem look_no {l : List Lk} {x y s0 all : Int} {k : Nat} {z : Lk} (h : Look l x y s0 all false k) (hz : l[k]? = some z) (hn : ¬ (z.f = x ∧ z.t = y)) : Look l x y s0 all false (k + 1) := by
  rcases h with ⟨h1, h2, h3⟩ | ⟨h, _⟩
  · exact .inl ⟨rfl, h2, noLink_succ h3 hz hn⟩
  · cases h
theorem look_yes {l : List Lk} {x y s0 all : Int} {k : Nat} {z : Lk} (h : Look l x y s0 all false k) (hz : l[k]? = some z) (hn : z.f = x ∧ z.t = y) : all = s0 ∧ Look l x y s0 (all + z.c) true (k + 1) := by
  rcases h with ⟨h1, h2, h3⟩ | ⟨h, _⟩
  · exact ⟨h2, .inr ⟨rfl, z.c, linkC_at h3 hz hn, by rw [h2]⟩⟩
  · cases h

set_option maxRecDepth 100000 in
set_option maxHeartbeats 8000000 in
theorem rcostw_any {w : World} {A E : Option Addr} {m k c d : Nat} {l : List Lk} {p : List Int} (hl : Rd lkc 3 w A m l) (hp : Rd intc 1 w E k p) (hs : Small l) (hm : m ≤ 1000) (hk : k ≤ 1000) :
    Calls Try.prog 23 #[.slice A m c, .slice E k d] w fun e w' => e = .returned (costV l p) ∧ Below w.heap.size w w' := by
  have HL := Lib.hid hl
  have HP := Lib.hid hp
  have HS := Lib.hid hs
  have HM := Lib.hid hl.1
  have hbw : Below w.heap.size w w := Below.refl _ _
  have hlp := hp.1
  clear hl hp hs
  cases p with
  | nil =>
    simp at hlp
    subst hlp
    have HV := Lib.hid (show costV l [] = .tuple #[.int .i64 0, .bool false] from rfl)
    go_enter Try.func23, Try.ntmps23
    go_wp2_with fail
    go_ret2
    rw [HV.out]
    exact ⟨rfl, hbw⟩
  | cons a r =>
    obtain ⟨h, rfl⟩ : ∃ h : Nat, k = h + 1 := ⟨k - 1, by simp at hlp; omega⟩
    have HR := Lib.hid (show r.length = h by simpa using hlp)
    have d0 : ((h : Int) + 1 == 0) = false := by simp; omega
    clear hlp
    go_enter Try.func23, Try.ntmps23
    go_wp2_with fail
    go_loopw [6, 7] (fun al v wr => ∃ (i : Nat) (s : Int), i ≤ h ∧ v = .int .i64 ((i : Int) + 1) ∧ al = .int .i64 s ∧ SumTo l a r i s ∧ Below w.heap.size w wr) (fun _ v _ => h + 1 - (intOf v).toNat)
    case atStart => exact ⟨0, 0, Nat.zero_le _, rfl, rfl, rfl, hbw⟩
    case round =>
      obtain ⟨i, s, hi, rfl, rfl, hsum, hbr⟩ := hrel
      have HSUM := Lib.hid hsum
      have HB := Lib.hid hbr
      have hbd := sumTo_bd HS.out hsum (by omega)
      clear hsum hbr
      have hi0 : (0 : Int) ≤ (i : Int) + 1 := by omega
      by_cases hlt : i < h
      · have hi1 : (i : Int) + 1 < (h : Int) + 1 := by omega
        obtain ⟨x, b1, o1, hx, rfl, hcx⟩ := (HP.out.below HB.out).at_ (show i < h + 1 by omega)
        obtain ⟨y, b1', o1', hy, he, hcy⟩ := (HP.out.below HB.out).at_ (show i + 1 < h + 1 by omega)
        cases he
        have HX := Lib.hid hx
        have HY := Lib.hid hy
        clear hx hy hcx hcy
        go_wp2_with fail
        go_loopw [6, 8, 9] (fun al is v wx => ∃ (j : Nat) (s' : Int) (f : Bool), j ≤ m ∧ v = .int .i64 j ∧ is = .bool f ∧ al = .int .i64 s' ∧ Look l x y s s' f j ∧ Below w.heap.size w wx) (fun _ _ v _ => m - (intOf v).toNat)
        case atStart => exact ⟨0, s, false, Nat.zero_le _, rfl, rfl, rfl, look_start _ _ _ _, HB.out⟩
        case round =>
          obtain ⟨j, s', f, hj, rfl, rfl, rfl, hlook, hb2⟩ := hrel
          have HK := Lib.hid hlook
          have HB2 := Lib.hid hb2
          clear hlook hb2
          have hj0 : (0 : Int) ≤ j := by omega
          cases f with
          | true =>
            obtain ⟨cc, hcc, rfl⟩ := look_got HK.out
            have HN := Lib.hid (sumTo_next HSUM.out HX.out HY.out hcc)
            clear hcc HK
            by_cases hjm : (j : Int) < m
            · go_wp2_with fail
              go_roundw
              case rel => exact ⟨i + 1, s + cc, by omega, by go_num, rfl, HN.out, HB2.out⟩
              case measure => simp [intOf]; omega
            · go_wp2_with fail
              go_roundw
              case rel => exact ⟨i + 1, s + cc, by omega, by go_num, rfl, HN.out, HB2.out⟩
              case measure => simp [intOf]; omega
          | false =>
            by_cases hjm : j < m
            · have hjm1 : (j : Int) < m := by omega
              obtain ⟨⟨zf, zt, zc⟩, b2, o2, hz, rfl, hcz⟩ := (HL.out.below HB2.out).at_ hjm
              obtain ⟨x2, b3, o3, hx2, he2, hcx⟩ := (HP.out.below HB2.out).at_ (show i < h + 1 by omega)
              obtain ⟨y2, b3', o3', hy2, he3, hcy⟩ := (HP.out.below HB2.out).at_ (show i + 1 < h + 1 by omega)
              cases he2
              cases he3
              have hx3 := HX.out
              rw [hx2] at hx3
              cases hx3
              have hy3 := HY.out
              rw [hy2] at hy3
              cases hy3
              have z0 := hcz 0 _ rfl
              have z1 := hcz 1 _ rfl
              have z2 := hcz 2 _ rfl
              have x0 := hcx 0 _ rfl
              have y0 := hcy 0 _ rfl
              rw [Nat.add_zero] at z0 x0 y0
              simp only [Nat.mul_one] at z0 z1 z2 x0 y0
              have HZ := Lib.hid hz
              have hsub : IntKind.i64.wrap ((i : Int) + 1 - 1) = (i : Int) := by rw [IntWalk.i64_in _ (by omega)]; omega
              have hi00 : (0 : Int) ≤ (i : Int) := by omega
              have hi01 : (i : Int) < (h : Int) + 1 := by omega
              have HB3 := Lib.hid (fun q => HB2.out.trans ((below_dN (w := wr) q).mono HB2.out.size))
              clear hz hcz hcx hcy hx2 hy2
              by_cases hf : zf = x
              · have d1 : (zf == x) = true := by simpa using hf
                by_cases ht : zt = y
                · have d2 : (zt == y) = true := by simpa using ht
                  obtain ⟨rfl, hyes⟩ := look_yes HK.out HZ.out ⟨hf, ht⟩
                  have HYE := Lib.hid hyes
                  have hzc := HS.out _ (List.mem_of_getElem? HZ.out)
                  simp only at hzc
                  have hw : IntKind.i64.wrap (s' + zc) = s' + zc := IntWalk.i64_in _ (by omega)
                  clear hyes hf ht HK
                  go_wp2_with fail
                  go_quiet (fail)
                  have z2q : (wr.drewN nq).cell? ⟨b2, o2 + j * 3 + 2, none⟩ = some (.int .i64 zc) := z2
                  have HB4 := Lib.hid (HB3.out nq)
                  clear z0 z1 z2 x0 y0 HB3
                  generalize wr.drewN nq = w9 at z2q HB4 ⊢
                  go_wp2_with fail
                  go_roundw
                  case rel =>
                    exact ⟨j + 1, s' + zc, true, by omega, by go_num, rfl, rfl, HYE.out, HB4.out⟩
                  case measure => simp [intOf]; omega
                · have d2 : (zt == y) = false := by simpa using ht
                  have HN := Lib.hid (look_no HK.out HZ.out (fun e => ht e.2))
                  clear hf ht HK
                  go_wp2_with fail
                  go_quiet (fail)
                  go_wp2_with fail
                  go_roundw
                  case rel => exact ⟨j + 1, s', false, by omega, by go_num, rfl, rfl, HN.out, HB3.out _⟩
                  case measure => simp [intOf]; omega
              · have d1 : (zf == x) = false := by simpa using hf
                have HN := Lib.hid (look_no HK.out HZ.out (fun e => hf e.1))
                clear hf HK
                go_wp2_with fail
                go_quiet (fail)
                go_wp2_with fail
                go_roundw
                case rel => exact ⟨j + 1, s', false, by omega, by go_num, rfl, rfl, HN.out, HB3.out _⟩
                case measure => simp [intOf]; omega
            · have hge : ¬ (j : Int) < m := by omega
              have HV := Lib.hid (show costV l (a :: r) = .tuple #[.int .i64 0, .bool false] by unfold costV; rw [sumTo_none HSUM.out HX.out HY.out (look_end HK.out (by rw [HM.out]; omega))]; rfl)
              clear hjm HK
              go_wp2_with fail
              go_ret2
              rw [HV.out]
              exact ⟨rfl, HB2.out⟩
      · have hge : ¬ (i : Int) + 1 < (h : Int) + 1 := by omega
        have HV := Lib.hid (show costV l (a :: r) = .tuple #[.int .i64 s, .bool true] by unfold costV; rw [sumTo_all HSUM.out (by rw [HR.out]; omega)]; rfl)
        clear HSUM hi hlt hi0
        go_wp2_with fail
        go_ret2
        rw [HV.out]
        exact ⟨rfl, HB.out⟩
end Go.Proofs.Ytmdcfiejkbhgpaa
