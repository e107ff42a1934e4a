/-
  The reference's Cost of a long way, walked.
-/
import Derived.Test.YtmdcfiejkbhgpaaRCost
import Derived.Test.YtmdcfiejkbhgpaaRqSteps
namespace Go.Proofs.Ytmdcfiejkbhgpaa
open Go.RowKit

theorem sumTo_bdb {l : List Lk} (hs : Small l) {a : Int} {r : List Int} {i : Nat} {s : Int} (h : SumTo l a r i s) (hi : i ≤ 100000) : -109951162777600000 ≤ s ∧ s ≤ 109951162777600000 := by
  have := costF_bd hs _ _ _ h
  have h2 : (r.take i).length ≤ i := by rw [List.length_take]; omega
  omega

set_option maxRecDepth 100000 in
set_option maxHeartbeats 8000000 in
theorem rcostb_any {w : World} {A E : Option Addr} {m k c d : Nat} {l : List Lk} {p : List Int} (hl : Rd lkc 3 w A m l) (hp : Rd intc 1 w E k p) (hs : Small l) (hm : m ≤ 1000) (hk : k ≤ 100000) :
    Calls Try.prog 23 #[.slice A m c, .slice E k d] w fun e w' => e = .returned (costV l p) ∧ Below w.heap.size w w' := by
  have HL := Lib.hid hl
  have HP := Lib.hid hp
  have HS := Lib.hid hs
  have HM := Lib.hid hl.1
  have hbw : Below w.heap.size w w := Below.refl _ _
  have hlp := hp.1
  clear hl hp hs
  cases p with
  | nil =>
    simp at hlp
    subst hlp
    have HV := Lib.hid (show costV l [] = .tuple #[.int .i64 0, .bool false] from rfl)
    go_enter Try.func23, Try.ntmps23
    go_wp2_with fail
    go_ret2
    rw [HV.out]
    exact ⟨rfl, hbw⟩
  | cons a r =>
    obtain ⟨h, rfl⟩ : ∃ h : Nat, k = h + 1 := ⟨k - 1, by simp at hlp; omega⟩
    have HR := Lib.hid (show r.length = h by simpa using hlp)
    have d0 : ((h : Int) + 1 == 0) = false := by simp; omega
    clear hlp
    go_enter Try.func23, Try.ntmps23
    go_wp2_with fail
    go_loopw [6, 7] (fun al v wr => ∃ (i : Nat) (s : Int), i ≤ h ∧ v = .int .i64 ((i : Int) + 1) ∧ al = .int .i64 s ∧ SumTo l a r i s ∧ Below w.heap.size w wr) (fun _ v _ => h + 1 - (intOf v).toNat)
    case atStart => exact ⟨0, 0, Nat.zero_le _, rfl, rfl, rfl, hbw⟩
    case round =>
      obtain ⟨i, s, hi, rfl, rfl, hsum, hbr⟩ := hrel
      have HSUM := Lib.hid hsum
      have HB := Lib.hid hbr
      have hbd := sumTo_bdb HS.out hsum (by omega)
      clear hsum hbr
      have hi0 : (0 : Int) ≤ (i : Int) + 1 := by omega
      by_cases hlt : i < h
      · have hi1 : (i : Int) + 1 < (h : Int) + 1 := by omega
        obtain ⟨x, b1, o1, hx, rfl, hcx⟩ := (HP.out.below HB.out).at_ (show i < h + 1 by omega)
        obtain ⟨y, b1', o1', hy, he, hcy⟩ := (HP.out.below HB.out).at_ (show i + 1 < h + 1 by omega)
        cases he
        have HX := Lib.hid hx
        have HY := Lib.hid hy
        clear hx hy hcx hcy
        go_wp2_with fail
        go_loopw [6, 8, 9] (fun al is v wx => ∃ (j : Nat) (s' : Int) (f : Bool), j ≤ m ∧ v = .int .i64 j ∧ is = .bool f ∧ al = .int .i64 s' ∧ Look l x y s s' f j ∧ Below w.heap.size w wx) (fun _ _ v _ => m - (intOf v).toNat)
        case atStart => exact ⟨0, s, false, Nat.zero_le _, rfl, rfl, rfl, look_start _ _ _ _, HB.out⟩
        case round =>
          obtain ⟨j, s', f, hj, rfl, rfl, rfl, hlook, hb2⟩ := hrel
          have HK := Lib.hid hlook
          have HB2 := Lib.hid hb2
          clear hlook hb2
          have hj0 : (0 : Int) ≤ j := by omega
          cases f with
          | true =>
            obtain ⟨cc, hcc, rfl⟩ := look_got HK.out
            have HN := Lib.hid (sumTo_next HSUM.out HX.out HY.out hcc)
            clear hcc HK
            by_cases hjm : (j : Int) < m
            · go_wp2_with fail
              go_roundw
              case rel => exact ⟨i + 1, s + cc, by omega, by go_num, rfl, HN.out, HB2.out⟩
              case measure => simp [intOf]; omega
            · go_wp2_with fail
              go_roundw
              case rel => exact ⟨i + 1, s + cc, by omega, by go_num, rfl, HN.out, HB2.out⟩
              case measure => simp [intOf]; omega
          | false =>
            by_cases hjm : j < m
            · have hjm1 : (j : Int) < m := by omega
              obtain ⟨⟨zf, zt, zc⟩, b2, o2, hz, rfl, hcz⟩ := (HL.out.below HB2.out).at_ hjm
              obtain ⟨x2, b3, o3, hx2, he2, hcx⟩ := (HP.out.below HB2.out).at_ (show i < h + 1 by omega)
              obtain ⟨y2, b3', o3', hy2, he3, hcy⟩ := (HP.out.below HB2.out).at_ (show i + 1 < h + 1 by omega)
              cases he2
              cases he3
              have hx3 := HX.out
              rw [hx2] at hx3
              cases hx3
              have hy3 := HY.out
              rw [hy2] at hy3
              cases hy3
              have z0 := hcz 0 _ rfl
              have z1 := hcz 1 _ rfl
              have z2 := hcz 2 _ rfl
              have x0 := hcx 0 _ rfl
              have y0 := hcy 0 _ rfl
              rw [Nat.add_zero] at z0 x0 y0
              simp only [Nat.mul_one] at z0 z1 z2 x0 y0
              have HZ := Lib.hid hz
              have hsub : IntKind.i64.wrap ((i : Int) + 1 - 1) = (i : Int) := by rw [IntWalk.i64_in _ (by omega)]; omega
              have hi00 : (0 : Int) ≤ (i : Int) := by omega
              have hi01 : (i : Int) < (h : Int) + 1 := by omega
              have HB3 := Lib.hid (fun q => HB2.out.trans ((below_dN (w := wr) q).mono HB2.out.size))
              clear hz hcz hcx hcy hx2 hy2
              by_cases hf : zf = x
              · have d1 : (zf == x) = true := by simpa using hf
                by_cases ht : zt = y
                · have d2 : (zt == y) = true := by simpa using ht
                  obtain ⟨rfl, hyes⟩ := look_yes HK.out HZ.out ⟨hf, ht⟩
                  have HYE := Lib.hid hyes
                  have hzc := HS.out _ (List.mem_of_getElem? HZ.out)
                  simp only at hzc
                  have hw : IntKind.i64.wrap (s' + zc) = s' + zc := IntWalk.i64_in _ (by omega)
                  clear hyes hf ht HK
                  go_wp2_with fail
                  go_quiet (fail)
                  have z2q : (wr.drewN nq).cell? ⟨b2, o2 + j * 3 + 2, none⟩ = some (.int .i64 zc) := z2
                  have HB4 := Lib.hid (HB3.out nq)
                  clear z0 z1 z2 x0 y0 HB3
                  generalize wr.drewN nq = w9 at z2q HB4 ⊢
                  go_wp2_with fail
                  go_roundw
                  case rel =>
                    exact ⟨j + 1, s' + zc, true, by omega, by go_num, rfl, rfl, HYE.out, HB4.out⟩
                  case measure => simp [intOf]; omega
                · have d2 : (zt == y) = false := by simpa using ht
                  have HN := Lib.hid (look_no HK.out HZ.out (fun e => ht e.2))
                  clear hf ht HK
                  go_wp2_with fail
                  go_quiet (fail)
                  go_wp2_with fail
                  go_roundw
                  case rel => exact ⟨j + 1, s', false, by omega, by go_num, rfl, rfl, HN.out, HB3.out _⟩
                  case measure => simp [intOf]; omega
              · have d1 : (zf == x) = false := by simpa using hf
                have HN := Lib.hid (look_no HK.out HZ.out (fun e => hf e.1))
                clear hf HK
                go_wp2_with fail
                go_quiet (fail)
                go_wp2_with fail
                go_roundw
                case rel => exact ⟨j + 1, s', false, by omega, by go_num, rfl, rfl, HN.out, HB3.out _⟩
                case measure => simp [intOf]; omega
            · have hge : ¬ (j : Int) < m := by omega
              have HV := Lib.hid (show costV l (a :: r) = .tuple #[.int .i64 0, .bool false] by unfold costV; rw [sumTo_none HSUM.out HX.out HY.out (look_end HK.out (by rw [HM.out]; omega))]; rfl)
              clear hjm HK
              go_wp2_with fail
              go_ret2
              rw [HV.out]
              exact ⟨rfl, HB2.out⟩
      · have hge : ¬ (i : Int) + 1 < (h : Int) + 1 := by omega
        have HV := Lib.hid (show costV l (a :: r) = .tuple #[.int .i64 s, .bool true] by unfold costV; rw [sumTo_all HSUM.out (by rw [HR.out]; omega)]; rfl)
        clear HSUM hi hlt hi0
        go_wp2_with fail
        go_ret2
        rw [HV.out]
        exact ⟨rfl, HB.out⟩
end Go.Proofs.Ytmdcfiejkbhgpaa
/-
  Small lemmas for the laws RepairAround and RepairNear.
-/
namespace Go.Proofs.Ytmdcfiejkbhgpaa
open Go.RowKit

/-- the kit's wpAnyH_take, the slot named: so that the frame can be laid out behind it -/
theorem take_at {P : Program} {md : Region.Mode} {ops : Array Oper} {Q : Exit → Act → World → Prop} {S : World → Prop} {i d : Nat} {oi : Oper} {v : Value} {fuel : Nat} {listed : Array Bool} {a : Act} {w : World} (hi : ops[i]? = some oi) (hd : oi.dst = some d)
    (hs : Region.noSelect ops = true) (hf : Region.free md ops listed i = true) (hr : (Region.ready md ops listed).contains i = true)
    (hQ : ∀ c a w, Q (.panic c) (a.put oi.dst v) w → Q (.panic c) a w) (hy : YieldsIf P ops S oi v a) (hS : S w)
    (h : wpAnyH P md ops Q S fuel (listed.setIfInBounds i true) (a.put (some d) v) w) : wpAnyH P md ops Q S (fuel + 1) listed a w :=
  wpAnyH_take hi hs hf hr hQ hy hS (by rw [hd]; exact h)

theorem distV_at {n : Int} {l : List Lk} {s : Int} (h : rightG n l s = true) {k : Nat} (hk : (k : Int) < n) : (distV n l s)[k]? = some (D l s k) := by
  unfold distV
  rw [if_pos h, List.getElem?_map]
  have e : (nodes n)[k]? = some (k : Int) := by
    unfold nodes
    rw [List.getElem?_map, List.getElem?_range (by omega)]
    rfl
  rw [e]
  rfl
theorem distV_len {n : Int} {l : List Lk} {s : Int} (h : rightG n l s = true) : (distV n l s).length = n.toNat := by
  unfold distV
  rw [if_pos h, List.length_map, nodes_len]
theorem rd_intAt {w : World} {A : Option Addr} {n k : Nat} {l : List Int} {x : Int} (h : Rd intc 1 w A n l) (hx : l[k]? = some x) : ∃ b o, A = some ⟨b, o, none⟩ ∧ w.cell? ⟨b, o + k, none⟩ = some (.int .i64 x) := by
  obtain ⟨b, o, hA, hc⟩ := h.2 k x hx
  have := hc 0 _ rfl
  rw [Nat.add_zero, Nat.mul_one] at this
  exact ⟨b, o, hA, this⟩
theorem rd_boolAt {w : World} {A : Option Addr} {n k : Nat} {l : List Bool} {x : Bool} (h : Rd boc 1 w A n l) (hx : l[k]? = some x) : ∃ b o, A = some ⟨b, o, none⟩ ∧ w.cell? ⟨b, o + k, none⟩ = some (.bool x) := by
  obtain ⟨b, o, hA, hc⟩ := h.2 k x hx
  have := hc 0 _ rfl
  rw [Nat.add_zero, Nat.mul_one] at this
  exact ⟨b, o, hA, this⟩
theorem nodes_at {n : Int} {k : Nat} (hk : (k : Int) < n) : (nodes n)[k]? = some (k : Int) := by
  unfold nodes
  rw [List.getElem?_map, List.getElem?_range (by omega)]
  rfl
end Go.Proofs.Ytmdcfiejkbhgpaa
/-
  The law RepairAround, walked. (Printed by genrep.py.)
-/
namespace Go.Proofs.Ytmdcfiejkbhgpaa
open Go.RowKit

set_option maxRecDepth 100000 in
set_option maxHeartbeats 8000000 in
theorem reparound_any {W : World} {A : Option Addr} {m c : Nat} {l : List Lk} (hr : Rd lkc 3 W A m l) (n s e d : Int) :
    Calls Try.prog 10 #[.agg #[.int .i64 n, .slice A m c, .int .i64 s, .int .i64 e, .int .i64 d]] W fun r w' => r = .returned (.bool true) ∧ Below W.heap.size W w' := by
  have HL := Lib.hid hr
  have HM := Lib.hid hr.1
  have HA := Lib.hid (awaker_any (W.alloc (.cells (gcr n A m c s e d) 42)))
  clear hr
  go_enter Try.func10, Try.ntmps10
  go_wp2_with fail
  refine (HA.out).mono ?_
  rintro r w1 ⟨rfl, hb1⟩
  have hal := below_al1 W (.cells (gcr n A m c s e d) 42)
  have HBG1 := Lib.hid (show BoxQ w1 W.heap.size n A m c s e d from BoxQ.below (heap_alloc_new _ _) hb1)
  have HW1 := Lib.hid (hal.trans (hb1.mono hal.size))
  have HL1 := Lib.hid (HL.out.below HW1.out)
  generalize hbx : W.heap.size = bx at HBG1 ⊢
  have HBX := Lib.hid hbx
  clear hbx hb1 hal HL HA
  obtain ⟨p0, p1, p2, p3, p4, p5⟩ := HBG1.out.cells
  by_cases hm : m ≤ 30
  · have hm2 : decide ((m : Int) > 30) = false := decide_eq_false (by omega)
    have hm3 : m ≤ 1000 := by omega
    have HCK := Lib.hid (rcheck_any (c := c) HL1.out n hm3)
    have HG := Lib.hid (fun h : chkG n l = 0 => (chkG_ok (n := n) (l := l)).1 h)
    generalize chkG n l = ck at HCK HG
    go_wp2_with fail
    refine (HCK.out).mono ?_
    rintro r w2 ⟨rfl, hb2⟩
    have HBG2 := Lib.hid (HBG1.out.below hb2)
    have HW2 := Lib.hid (HW1.out.trans (hb2.mono HW1.out.size))
    have HL2 := Lib.hid (HL1.out.below hb2)
    clear p0 p1 p2 p3 p4 p5 HBG1 HW1 HL1 HCK hb2
    obtain ⟨p0, p1, p2, p3, p4, p5⟩ := HBG2.out.cells
    by_cases hck : ¬ ck = 0
    · have hckb : (ck != 0) = true := by simpa using hck
      go_wp2_with fail
      go_ret
      exact ⟨rfl, by have := HBX.out; subst this; exact HW2.out⟩
    · have hckb : (ck != 0) = false := by simpa using hck
      by_cases hs0 : s < 0
      · have hs0b : (decide (s < 0)) = true := by simpa using hs0
        go_wp2_with fail
        go_ret
        exact ⟨rfl, by have := HBX.out; subst this; exact HW2.out⟩
      · have hs0b : (decide (s < 0)) = false := by simpa using hs0
        by_cases hs1 : s ≥ n
        · have hs1b : (decide (s ≥ n)) = true := by simpa using hs1
          go_wp2_with fail
          go_ret
          exact ⟨rfl, by have := HBX.out; subst this; exact HW2.out⟩
        · have hs1b : (decide (s ≥ n)) = false := by simpa using hs1
          by_cases he0 : e < 0
          · have he0b : (decide (e < 0)) = true := by simpa using he0
            go_wp2_with fail
            go_ret
            exact ⟨rfl, by have := HBX.out; subst this; exact HW2.out⟩
          · have he0b : (decide (e < 0)) = false := by simpa using he0
            by_cases he1 : e ≥ n
            · have he1b : (decide (e ≥ n)) = true := by simpa using he1
              go_wp2_with fail
              go_ret
              exact ⟨rfl, by have := HBX.out; subst this; exact HW2.out⟩
            · have he1b : (decide (e ≥ n)) = false := by simpa using he1
              by_cases hd0 : d < 0
              · have hd0b : (decide (d < 0)) = true := by simpa using hd0
                go_wp2_with fail
                go_ret
                exact ⟨rfl, by have := HBX.out; subst this; exact HW2.out⟩
              · have hd0b : (decide (d < 0)) = false := by simpa using hd0
                by_cases hd1 : d ≥ n
                · have hd1b : (decide (d ≥ n)) = true := by simpa using hd1
                  go_wp2_with fail
                  go_ret
                  exact ⟨rfl, by have := HBX.out; subst this; exact HW2.out⟩
                · have hd1b : (decide (d ≥ n)) = false := by simpa using hd1
                  have hg := HG.out (by simpa using hck)
                  have hn64 := hg.n64
                  obtain ⟨N, hN⟩ : ∃ N : Nat, n = N := ⟨n.toNat, by omega⟩
                  subst hN
                  obtain ⟨S, rfl, hS1⟩ := nat_of_lt (n := (N : Int)) (v := s) (by omega) (by omega)
                  obtain ⟨E, rfl, hE1⟩ := nat_of_lt (n := (N : Int)) (v := e) (by omega) (by omega)
                  obtain ⟨T, rfl, hT1⟩ := nat_of_lt (n := (N : Int)) (v := d) (by omega) (by omega)
                  have hS : 0 ≤ (S : Int) ∧ (S : Int) < N := ⟨by omega, hS1⟩
                  have hE : 0 ≤ (E : Int) ∧ (E : Int) < N := ⟨by omega, hE1⟩
                  have hT : 0 ≤ (T : Int) ∧ (T : Int) < N := ⟨by omega, hT1⟩
                  have hRW := rightG_in (without_ok hg S E) hS

                  have HAN := Lib.hid (after_none hg hS hE hT)
                  have HLAW := Lib.hid (fun h => around_law hg hS hE hT h)
                  have HEM := Lib.hid (fun h : ¬ 0 ≤ D (withoutG l S E) (S : Int) T => show stepsR (N : Int) l S E T = [] by
                    have h1 := HAN.out
                    rw [decide_eq_false h] at h1
                    unfold stepsR
                    rw [if_pos (by simpa using h1)])
                  have HSG := Lib.hid (small_gok hg)
                  have HFA := Lib.hid (fun w' A' (h : Rd lkc 3 w' A' m l) => far_any (c := c) h N S E T hm3)
                  have HFV := Lib.hid (show farV N l S E T = (nodes (N : Int)).map (fun x => cleanV N l S E x T) from if_pos (by rw [rightG_in hg hS, rightG_in hg hE, rightG_in hg hT]; rfl))
                  have HFS := Lib.hid (show (farV N l S E T)[S]? = some (cleanV N l S E S T) by rw [HFV.out, List.getElem?_map, nodes_at hS1]; rfl)
                  have HFL := Lib.hid (show (farV N l S E T).length = N by rw [HFV.out, List.length_map, nodes_len]; omega)
                  have LW := Lib.hid (fun xs => walkV_few N l S T xs)
                  have HRW := Lib.hid hRW
                  have HRG := Lib.hid (show (rightG (N : Int) l T && rightG N l S && rightG N l E) = true by rw [rightG_in hg hS, rightG_in hg hE, rightG_in hg hT]; rfl)
                  have HST := Lib.hid (steps_any (c := c) HL2.out N S E T hm3)
                  have L1 := Lib.hid (stepsR_few N l S E T)
                  have hdge := D_ge (without_ok hg S E).pos (S : Int) (T : Int)
                  have HWL := Lib.hid (Nat.le_trans (withoutG_len l S E) (Nat.le_of_eq HM.out))
                  clear hg HG hRW
                  rw [HAN.out] at HST
                  clear HAN
                  go_wp2_with fail
                  refine (HST.out).mono ?_
                  rintro r w3 ⟨v, rfl, hv, hb⟩
                  obtain ⟨A3, c3, rfl, hr3⟩ := hv.rd
                  have HS3 := Lib.hid hr3
                  have HBG3 := Lib.hid (HBG2.out.below hb)
                  have HW3 := Lib.hid (HW2.out.trans (hb.mono HW2.out.size))
                  have HL3 := Lib.hid (HL2.out.below hb)
                  clear p0 p1 p2 p3 p4 p5 HBG2 HW2 HL2 hv hr3 hb HST
                  obtain ⟨p0, p1, p2, p3, p4, p5⟩ := HBG3.out.cells
                  have HC := Lib.hid (fun w' (h : Below w3.heap.size w3 w') => show Below w3.heap.size w3 w' ∧ w'.cell? ⟨bx, 0, none⟩ = some (.int .i64 N) ∧ w'.cell? ⟨bx, 1, none⟩ = some (.slice A m c) ∧ w'.cell? ⟨bx, 2, none⟩ = some (.int .i64 S) ∧ w'.cell? ⟨bx, 3, none⟩ = some (.int .i64 E) ∧ w'.cell? ⟨bx, 4, none⟩ = some (.int .i64 T) from by
                    obtain ⟨-, q0, q1, q2, q3, q4⟩ := (HBG3.out.below h).cells
                    exact ⟨h, q0, q1, q2, q3, q4⟩)
                  have HWI := Lib.hid (fun w' (h : Below w3.heap.size w3 w') => (rwithout_any (c := c) (HL3.out.below h) S E hm3).mono fun r w'' ⟨v, he, h1, h2⟩ => show GivesL w' (withoutG l S E) r w'' by rw [he]; exact givesL_of h1 h2)
                  have HDI := Lib.hid (fun w' A1 c1 (_ : Below w3.heap.size w3 w') (hp : Rd lkc 3 w' A1 (withoutG l S E).length (withoutG l S E)) => (rdist_any (c := c1) hp N S (Nat.le_trans HWL.out hm3)).mono fun r w'' he => givesI_dist he)
                  have HDA := Lib.hid (distV_at HRW.out hT1)
                  have HDL := Lib.hid (distV_len HRW.out)
                  generalize distV N (withoutG l S E) S = dv at HDI HDA HDL
                  generalize withoutG l S E = wl at HWI HDI HLAW HDA HEM hdge ⊢
                  generalize D wl (S : Int) T = dt at HLAW HDA HEM hdge ⊢
                  clear HRW HWL
                  go_upto_region 7 with fail
                  go_region_held3 (fun w' => Below w3.heap.size w3 w' ∧ w'.cell? ⟨bx, 0, none⟩ = some (.int .i64 N) ∧ w'.cell? ⟨bx, 1, none⟩ = some (.slice A m c) ∧ w'.cell? ⟨bx, 2, none⟩ = some (.int .i64 S) ∧ w'.cell? ⟨bx, 3, none⟩ = some (.int .i64 E) ∧ w'.cell? ⟨bx, 4, none⟩ = some (.int .i64 T))
                    (first | assumption | exact HC.out _ (by assumption) | exact HC.out _ (Below.refl _ _).drew)
                    (first
                      | (go_at_call 26; (with_reducible refine (HWI.out _ (And.left (by assumption))).mono ?_); rintro r wA ⟨A4, c4, rfl, hrD, hbA⟩; have HRD := Lib.hid hrD; clear hrD; have hchA := below_step (And.left (by assumption)) hbA)
                      | (go_at_call 17; (with_reducible refine (HDI.out _ _ _ (And.left (by assumption)) HRD.out).mono ?_); rintro r wA ⟨A5, c5, rfl, hrD, hbA⟩; have HR5 := Lib.hid hrD; clear hrD; have hchA := below_step (And.left (by assumption)) hbA))
                  all_goals
                    have hHC := HC.out _ hchA
                    obtain ⟨-, q0, q1, q2, q3, q4⟩ := hHC
                    have HBA := Lib.hid (HBG3.out.below hchA)
                    have HLA := Lib.hid (HL3.out.below hchA)
                    have HSA := Lib.hid (HS3.out.below hchA)
                    have HWA := Lib.hid (HW3.out.trans (hchA.mono HW3.out.size))
                    obtain ⟨db, do_, rfl, cd⟩ := rd_intAt HR5.out HDA.out
                    have hdl := HDL.out
                    rw [Int.toNat_natCast] at hdl
                    rw [hdl]
                    generalize hsv : stepsR N l S E T = sv at HSA HLAW L1 HEM ⊢
                    generalize hK : sv.length = K at HSA HLAW L1 ⊢
                    have HK := Lib.hid hK
                    clear hchA p0 p1 p2 p3 p4 p5 HC HBG3 HL3 HS3 HW3 HWI HDI HDA HDL HR5 hdl hsv hK HRD
                    by_cases h0 : 0 ≤ dt
                    · have hd1 : decide (0 ≤ dt) = true := decide_eq_true h0
                      have hd2 : decide (dt ≥ 0) = true := decide_eq_true h0
                      obtain ⟨hlen, hnil, r, hw, hch, hlast⟩ := HLAW.out h0
                      have hk3 : ¬ N ≤ K := by omega
                      have HCH := Lib.hid hch
                      have HLS := Lib.hid hlast
                      have HNL := Lib.hid hnil
                      have HWK := Lib.hid (walk_any (c := c) (q := c3) HLA.out N S T hm3 HSA.out (Nat.le_trans L1.out (by decide)))
                      have hrl := LW.out sv
                      rw [hw] at hrl HWK
                      rw [HK.out] at hrl
                      have HRL := Lib.hid hrl
                      clear hlen hnil hw hch hlast hrl h0 HLAW
                      go_wp2_with fail
                      refine (HWK.out).mono ?_
                      rintro rr w6 ⟨v, rfl, hv, hb⟩
                      obtain ⟨A6, c6, rfl, hc6, hr6⟩ := hv.rdc
                      have HB6 := Lib.hid (HBA.out.below hb)
                      have HL6 := Lib.hid (HLA.out.below hb)
                      have HW6 := Lib.hid (HWA.out.trans (hb.mono HWA.out.size))
                      have HR6 := Lib.hid hr6
                      clear q0 q1 q2 q3 q4 hb hv hr6 HBA HLA HWA HWK HSA hc6 cd
                      obtain ⟨p0, p1, p2, p3, p4, p5⟩ := HB6.out.cells
                      obtain ⟨cz, hcz⟩ := Option.isSome_iff_exists.1 (chn_cost HCH.out)
                      have HCO := Lib.hid (rcostb_any (c := c) (d := c6) HL6.out HR6.out HSG.out hm3 (Nat.le_trans HRL.out (by have := L1.out; omega)))
                      rw [show costV l ((S : Int) :: r) = .tuple #[.int .i64 cz, .bool true] by unfold costV; rw [show costG l ((S : Int) :: r) = some cz from hcz]; rfl] at HCO
                      rw [show ((S : Int) :: r).length = r.length + 1 from rfl] at HR6 HCO ⊢
                      have HL0 := Lib.hid (show ((S : Int) :: r)[0]? = some (S : Int) from rfl)
                      have HLR := Lib.hid (show ((S : Int) :: r)[r.length]? = some (T : Int) by rw [lastD_at, HLS.out])
                      have hrb : r.length ≤ 100000 := by have h1 := HRL.out; have h2 := L1.out; simp only [List.length_cons] at h1; omega
                      generalize hR : r.length = R at HR6 HCO HLR hrb ⊢
                      clear hcz HLS HRL
                      go_wp2_with fail
                      refine (HCO.out).mono ?_
                      rintro rr w7 ⟨rfl, hb⟩
                      have HB7 := Lib.hid (HB6.out.below hb)
                      have HL7 := Lib.hid (HL6.out.below hb)
                      have HW7 := Lib.hid (HW6.out.trans (hb.mono HW6.out.size))
                      have HR7 := Lib.hid (HR6.out.below hb)
                      clear p0 p1 p2 p3 p4 p5 hb HB6 HL6 HW6 HR6 HCO
                      obtain ⟨p0, p1, p2, p3, p4, p5⟩ := HB7.out.cells
                      obtain ⟨rb, ro, rfl, f0⟩ := rd_intAt HR7.out HL0.out
                      obtain ⟨rb', ro', he, fR⟩ := rd_intAt HR7.out HLR.out
                      cases he
                      simp only [Nat.add_zero] at f0
                      have hsub : IntKind.i64.wrap ((R : Int) + 1 - 1) = (R : Int) := by rw [IntWalk.i64_in _ (by omega)]; omega
                      have hR0 : (0 : Int) ≤ R := by omega
                      have HRE := Lib.hid hR
                      clear hR
                      go_upto_region 14 with fail
                      go_quiet (fail)
                      have hdn := below_dN (w := w7) nq
                      have HB8 := Lib.hid (HB7.out.below hdn)
                      have HL8 := Lib.hid (HL7.out.below hdn)
                      have HW8 := Lib.hid (HW7.out.trans (hdn.mono HW7.out.size))
                      have HR8 := Lib.hid (HR7.out.below hdn)
                      clear p0 p1 p2 p3 p4 p5 hdn HB7 HL7 HW7 HR7 f0 fR
                      generalize w7.drewN nq = w8 at HB8 HL8 HW8 HR8 ⊢
                      have HB0 := Lib.hid (Below.refl w8.heap.size w8)
                      go_wp2_with fail
                      go_loopw [10] (fun v wr => ∃ j : Nat, j ≤ R ∧ v = .int .i64 ((j : Int) + 1) ∧ Below w8.heap.size w8 wr) (fun v _ => R + 1 - (intOf v).toNat)
                      case atStart => exact ⟨0, Nat.zero_le _, rfl, HB0.out⟩
                      case round =>
                        obtain ⟨j, hj, rfl, hbr⟩ := hrel
                        have HB := Lib.hid hbr
                        clear hbr HB0
                        obtain ⟨p0, p1, p2, p3, p4, p5⟩ := (HB8.out.below HB.out).cells
                        have hj0 : (0 : Int) ≤ (j : Int) + 1 := by omega
                        have hj00 : (0 : Int) ≤ j := by omega
                        by_cases hlt : j < R
                        · have hj1 : (j : Int) + 1 < (R : Int) + 1 := by omega
                          have hj2 : (j : Int) < (R : Int) + 1 := by omega
                          have hjs : IntKind.i64.wrap ((j : Int) + 1 - 1) = (j : Int) := by rw [IntWalk.i64_in _ (by omega)]; omega
                          have hjt : ((j : Int) + 1).toNat = j + 1 := by omega
                          have hji : (j : Int) < R := by omega
                          have hlen : ((S : Int) :: r).length = R + 1 := by rw [← HRE.out]; rfl
                          have hx := List.getElem?_eq_getElem (show j < ((S : Int) :: r).length by omega)
                          have hy := List.getElem?_eq_getElem (show j + 1 < ((S : Int) :: r).length by omega)
                          have hok := chn_at HCH.out j _ _ hx hy
                          generalize ((S : Int) :: r)[j] = x at hx hok
                          generalize ((S : Int) :: r)[j + 1] = y at hy hok
                          obtain ⟨xb, xo, hxe, cx⟩ := rd_intAt (HR8.out.below HB.out) hx
                          cases hxe
                          obtain ⟨xb', xo', hye, cy⟩ := rd_intAt (HR8.out.below HB.out) hy
                          cases hye
                          have HB2 := Lib.hid (fun q => HB.out.trans ((below_dN (w := wr) q).mono HB.out.size))
                          obtain ⟨-, hok1, hok2⟩ := hok
                          clear hx hy hlen
                          by_cases hxS : x = (S : Int)
                          · have hyE : ¬ y = (E : Int) := fun h => hok1 ⟨hxS, h⟩
                            have d1 : (x == (S : Int)) = true := by simpa using hxS
                            have d2 : (y == (E : Int)) = false := by simpa using hyE
                            by_cases hxE : x = (E : Int)
                            · have hyS : ¬ y = (S : Int) := fun h => hok2 ⟨hxE, h⟩
                              have d3 : (x == (E : Int)) = true := by simpa using hxE
                              have d4 : (y == (S : Int)) = false := by simpa using hyS
                              clear hok1 hok2 hxS hxE hyE hyS
                              go_wp2_with fail
                              go_quiet (fail)
                              go_wp2_with fail
                              go_roundw
                              case rel => exact ⟨j + 1, by omega, by go_num, HB2.out _⟩
                              case measure => simp [intOf]; omega
                            · have d3 : (x == (E : Int)) = false := by simpa using hxE
                              clear hok1 hok2 hxS hxE hyE
                              go_wp2_with fail
                              go_quiet (fail)
                              go_wp2_with fail
                              go_roundw
                              case rel => exact ⟨j + 1, by omega, by go_num, HB2.out _⟩
                              case measure => simp [intOf]; omega
                          · have d1 : (x == (S : Int)) = false := by simpa using hxS
                            by_cases hxE : x = (E : Int)
                            · have hyS : ¬ y = (S : Int) := fun h => hok2 ⟨hxE, h⟩
                              have d3 : (x == (E : Int)) = true := by simpa using hxE
                              have d4 : (y == (S : Int)) = false := by simpa using hyS
                              clear hok1 hok2 hxS hxE hyS
                              go_wp2_with fail
                              go_quiet (fail)
                              go_wp2_with fail
                              go_roundw
                              case rel => exact ⟨j + 1, by omega, by go_num, HB2.out _⟩
                              case measure => simp [intOf]; omega
                            · have d3 : (x == (E : Int)) = false := by simpa using hxE
                              clear hok1 hok2 hxS hxE
                              go_wp2_with fail
                              go_quiet (fail)
                              go_wp2_with fail
                              go_roundw
                              case rel => exact ⟨j + 1, by omega, by go_num, HB2.out _⟩
                              case measure => simp [intOf]; omega
                        · obtain rfl : j = R := by omega
                          have hge : ¬ (j : Int) + 1 < (j : Int) + 1 := by omega
                          have hek : ((K : Int) == 0) = cleanV N l S E S T := by
                            have h1 := HNL.out
                            have h2 := HK.out
                            by_cases hc : cleanV N l S E S T = true
                            · rw [hc]
                              rw [h1.1 hc] at h2
                              simp at h2
                              subst h2
                              rfl
                            · rw [Bool.not_eq_true] at hc
                              rw [hc]
                              have h3 : sv ≠ [] := fun h => by rw [h1.2 h] at hc; cases hc
                              have h4 := List.length_pos_iff.2 h3
                              simp
                              omega
                          have HFC := Lib.hid (fun w' (h : Below wr.heap.size wr w') => (HFA.out w' A (HL8.out.below (HB.out.trans (h.mono HB.out.size)))).mono fun rr w'' ⟨v, he, h1, h2⟩ => show ∃ (fb fo c' : Nat), rr = Ending.returned (Value.slice (some ⟨fb, fo, none⟩) N c') ∧ w''.cell? ⟨fb, fo + S, none⟩ = some (Value.bool (cleanV N l S E S T)) ∧ Below w'.heap.size w' w'' from by
                            obtain ⟨A', c', hv, hr'⟩ := h1.rd
                            obtain ⟨fb, fo, hA', hcl⟩ := rd_boolAt hr' HFS.out
                            exact ⟨fb, fo, c', by rw [he, hv, HFL.out, hA'], hcl, h2⟩)
                          have HC9 := Lib.hid (fun w' (h : Below wr.heap.size wr w') => show Below wr.heap.size wr w' ∧ w'.cell? ⟨bx, 0, none⟩ = some (.int .i64 N) ∧ w'.cell? ⟨bx, 1, none⟩ = some (.slice A m c) ∧ w'.cell? ⟨bx, 2, none⟩ = some (.int .i64 S) ∧ w'.cell? ⟨bx, 3, none⟩ = some (.int .i64 E) ∧ w'.cell? ⟨bx, 4, none⟩ = some (.int .i64 T) from by
                            obtain ⟨-, z0, z1, z2, z3, z4⟩ := (HB8.out.below (HB.out.trans (h.mono HB.out.size))).cells
                            exact ⟨h, z0, z1, z2, z3, z4⟩)
                          have HBF := Lib.hid (fun w' (h : Below wr.heap.size wr w') => HW8.out.trans ((HB.out.trans (h.mono HB.out.size)).mono HW8.out.size))
                          generalize cleanV N l S E S T = cl at HFC hek
                          have hee : (cl == cl) = true := by simp
                          clear HFS HNL HFA HB8 HL8 HW8
                          go_upto_region 21 with fail
                          refine wp_region_held_drew (S := (fun w' => Below wr.heap.size wr w' ∧ w'.cell? ⟨bx, 0, none⟩ = some (.int .i64 N) ∧ w'.cell? ⟨bx, 1, none⟩ = some (.slice A m c) ∧ w'.cell? ⟨bx, 2, none⟩ = some (.int .i64 S) ∧ w'.cell? ⟨bx, 3, none⟩ = some (.int .i64 E) ∧ w'.cell? ⟨bx, 4, none⟩ = some (.int .i64 T))) (by kernel_rfl) ?_ (fun hHeld => ?_)
                          · exact HC9.out _ (Below.refl _ _).drew
                          refine take_at (i := 0) (d := 188) (v := ?_) rfl (by rfl) (by kernel_rfl) (by kernel_rfl) (by kernel_rfl) (fun _ _ _ h => h) (Or.inl ⟨by rfl, ?hy0⟩) (by assumption) ?rest0
                          case hy0 => (intro w hSw; (try dsimp only at hSw); go_simp; first | done | with_reducible rfl)
                          simp only [Act.put, List.setIfInBounds_toArray, List.set_cons_zero, List.set_cons_succ]
                          refine take_at (i := 1) (d := 189) (v := ?_) rfl (by rfl) (by kernel_rfl) (by kernel_rfl) (by kernel_rfl) (fun _ _ _ h => h) (Or.inl ⟨by rfl, ?hy1⟩) (by assumption) ?rest1
                          case hy1 => (intro w hSw; (try dsimp only at hSw); go_simp; first | done | with_reducible rfl)
                          simp only [Act.put, List.setIfInBounds_toArray, List.set_cons_zero, List.set_cons_succ]
                          refine take_at (i := 2) (d := 190) (v := ?_) rfl (by rfl) (by kernel_rfl) (by kernel_rfl) (by kernel_rfl) (fun _ _ _ h => h) (Or.inl ⟨by rfl, ?hy2⟩) (by assumption) ?rest2
                          case hy2 => (intro w hSw; (try dsimp only at hSw); go_simp; first | done | with_reducible rfl)
                          simp only [Act.put, List.setIfInBounds_toArray, List.set_cons_zero, List.set_cons_succ]
                          refine take_at (i := 3) (d := 191) (v := ?_) rfl (by rfl) (by kernel_rfl) (by kernel_rfl) (by kernel_rfl) (fun _ _ _ h => h) (Or.inl ⟨by rfl, ?hy3⟩) (by assumption) ?rest3
                          case hy3 => (intro w hSw; (try dsimp only at hSw); go_simp; first | done | with_reducible rfl)
                          simp only [Act.put, List.setIfInBounds_toArray, List.set_cons_zero, List.set_cons_succ]
                          refine take_at (i := 4) (d := 192) (v := ?_) rfl (by rfl) (by kernel_rfl) (by kernel_rfl) (by kernel_rfl) (fun _ _ _ h => h) (Or.inl ⟨by rfl, ?hy4⟩) (by assumption) ?rest4
                          case hy4 => (intro w hSw; (try dsimp only at hSw); go_simp; first | done | with_reducible rfl)
                          simp only [Act.put, List.setIfInBounds_toArray, List.set_cons_zero, List.set_cons_succ]
                          refine take_at (i := 5) (d := 193) (v := ?_) rfl (by rfl) (by kernel_rfl) (by kernel_rfl) (by kernel_rfl) (fun _ _ _ h => h) (Or.inl ⟨by rfl, ?hy5⟩) (by assumption) ?rest5
                          case hy5 => (intro w hSw; (try dsimp only at hSw); go_simp; first | done | with_reducible rfl)
                          simp only [Act.put, List.setIfInBounds_toArray, List.set_cons_zero, List.set_cons_succ]
                          refine take_at (i := 6) (d := 194) (v := ?_) rfl (by rfl) (by kernel_rfl) (by kernel_rfl) (by kernel_rfl) (fun _ _ _ h => h) (Or.inl ⟨by rfl, ?hy6⟩) (by assumption) ?rest6
                          case hy6 => (intro w hSw; (try dsimp only at hSw); go_simp; first | done | with_reducible rfl)
                          simp only [Act.put, List.setIfInBounds_toArray, List.set_cons_zero, List.set_cons_succ]
                          refine take_at (i := 7) (d := 195) (v := ?_) rfl (by rfl) (by kernel_rfl) (by kernel_rfl) (by kernel_rfl) (fun _ _ _ h => h) (Or.inl ⟨by rfl, ?hy7⟩) (by assumption) ?rest7
                          case hy7 => (intro w hSw; (try dsimp only at hSw); go_simp; first | done | with_reducible rfl)
                          simp only [Act.put, List.setIfInBounds_toArray, List.set_cons_zero, List.set_cons_succ]
                          refine take_at (i := 8) (d := 196) (v := ?_) rfl (by rfl) (by kernel_rfl) (by kernel_rfl) (by kernel_rfl) (fun _ _ _ h => h) (Or.inl ⟨by rfl, ?hy8⟩) (by assumption) ?rest8
                          case hy8 => (intro w hSw; (try dsimp only at hSw); go_simp; first | done | with_reducible rfl)
                          simp only [Act.put, List.setIfInBounds_toArray, List.set_cons_zero, List.set_cons_succ]
                          refine take_at (i := 9) (d := 197) (v := ?_) rfl (by rfl) (by kernel_rfl) (by kernel_rfl) (by kernel_rfl) (fun _ _ _ h => h) (Or.inl ⟨by rfl, ?hy9⟩) (by assumption) ?rest9
                          case hy9 => (intro w hSw; (try dsimp only at hSw); go_simp; first | done | with_reducible rfl)
                          simp only [Act.put, List.setIfInBounds_toArray, List.set_cons_zero, List.set_cons_succ]
                          refine take_at (i := 11) (d := 199) (v := ?_) rfl (by rfl) (by kernel_rfl) (by kernel_rfl) (by kernel_rfl) (fun _ _ _ h => h) (Or.inl ⟨by rfl, ?hy11⟩) (by assumption) ?rest11
                          case hy11 => (intro w hSw; (try dsimp only at hSw); go_simp; first | done | with_reducible rfl)
                          simp only [Act.put, List.setIfInBounds_toArray, List.set_cons_zero, List.set_cons_succ]
                          refine take_at (i := 12) (d := 200) (v := ?_) rfl (by rfl) (by kernel_rfl) (by kernel_rfl) (by kernel_rfl) (fun _ _ _ h => h) (Or.inl ⟨by rfl, ?hy12⟩) (by assumption) ?rest12
                          case hy12 => (intro w hSw; (try dsimp only at hSw); go_simp; first | done | with_reducible rfl)
                          simp only [Act.put, List.setIfInBounds_toArray, List.set_cons_zero, List.set_cons_succ]
                          refine take_at (i := 15) (d := 203) (v := ?_) rfl (by rfl) (by kernel_rfl) (by kernel_rfl) (by kernel_rfl) (fun _ _ _ h => h) (Or.inl ⟨by rfl, ?hy15⟩) (by assumption) ?rest15
                          case hy15 => (intro w hSw; (try dsimp only at hSw); go_simp; first | done | with_reducible rfl)
                          simp only [Act.put, List.setIfInBounds_toArray, List.set_cons_zero, List.set_cons_succ]
                          refine take_at (i := 16) (d := 204) (v := ?_) rfl (by rfl) (by kernel_rfl) (by kernel_rfl) (by kernel_rfl) (fun _ _ _ h => h) (Or.inl ⟨by rfl, ?hy16⟩) (by assumption) ?rest16
                          case hy16 => (intro w hSw; (try dsimp only at hSw); go_simp; first | done | with_reducible rfl)
                          simp only [Act.put, List.setIfInBounds_toArray, List.set_cons_zero, List.set_cons_succ]
                          refine take_at (i := 17) (d := 205) (v := ?_) rfl (by rfl) (by kernel_rfl) (by kernel_rfl) (by kernel_rfl) (fun _ _ _ h => h) (Or.inl ⟨by rfl, ?hy17⟩) (by assumption) ?rest17
                          case hy17 => (intro w hSw; (try dsimp only at hSw); go_simp; first | done | with_reducible rfl)
                          simp only [Act.put, List.setIfInBounds_toArray, List.set_cons_zero, List.set_cons_succ]
                          refine wpAnyH_ready (rs := [10]) (by kernel_rfl) (by simp) ?_
                          refine AllReadyH.cons rfl (fun K2 hK2 => ?_) AllReadyH.nil
                          go_simp
                          refine (HFC.out _ hHeld.1).mono ?_
                          rintro rr w12 ⟨fb, fo, c9, rfl, cf, hb12⟩
                          refine hK2.out _ _ (HC9.out _ (below_step hHeld.1 hb12)) (fun hHeld => ?_)
                          clear hK2 K2 hb12
                          try simp only [Act.put, List.setIfInBounds_toArray, List.set_cons_zero, List.set_cons_succ]
                          refine take_at (i := 13) (d := 201) (v := ?_) rfl (by rfl) (by kernel_rfl) (by kernel_rfl) (by kernel_rfl) (fun _ _ _ h => h) (Or.inl ⟨by rfl, ?hy13⟩) (by assumption) ?rest13
                          case hy13 => (intro w hSw; (try dsimp only at hSw); go_simp; first | done | with_reducible rfl)
                          simp only [Act.put, List.setIfInBounds_toArray, List.set_cons_zero, List.set_cons_succ]
                          refine wpAnyH_ready (rs := [14]) (by kernel_rfl) (by simp) ?_
                          refine AllReadyH.cons rfl (fun K2 hK2 => ?_) AllReadyH.nil
                          go_simp
                          refine hK2.out _ _ hHeld (fun hHeld => ?_)
                          clear hK2 K2
                          try simp only [Act.put, List.setIfInBounds_toArray, List.set_cons_zero, List.set_cons_succ]
                          refine take_at (i := 18) (d := 206) (v := ?_) rfl (by rfl) (by kernel_rfl) (by kernel_rfl) (by kernel_rfl) (fun _ _ _ h => h) (Or.inl ⟨by rfl, ?hy18⟩) (by assumption) ?rest18
                          case hy18 => (intro w hSw; (try dsimp only at hSw); go_simp; first | done | with_reducible rfl)
                          simp only [Act.put, List.setIfInBounds_toArray, List.set_cons_zero, List.set_cons_succ]
                          refine take_at (i := 19) (d := 2) (v := ?_) rfl (by rfl) (by kernel_rfl) (by kernel_rfl) (by kernel_rfl) (fun _ _ _ h => h) (Or.inl ⟨by rfl, ?hy19⟩) (by assumption) ?rest19
                          case hy19 => (intro w hSw; (try dsimp only at hSw); go_simp; first | done | with_reducible rfl)
                          simp only [Act.put, List.setIfInBounds_toArray, List.set_cons_zero, List.set_cons_succ]
                          refine wpAnyH_done (by kernel_rfl) ?_ _
                          go_wp2
                          go_ret
                          exact ⟨rfl, by have := HBX.out; subst this; exact HBF.out _ hHeld.1⟩
                    · have hd1 : decide (0 ≤ dt) = false := decide_eq_false h0
                      have hd2 : decide (dt ≥ 0) = false := decide_eq_false h0
                      have hk0 : K = 0 := by rw [← HK.out, HEM.out (by omega)]; rfl
                      subst hk0
                      have hk3 : ¬ N ≤ 0 := by omega
                      go_wp2_with fail
                      go_ret
                      exact ⟨rfl, by have := HBX.out; subst this; exact HWA.out⟩
  · have hm2 : decide ((m : Int) > 30) = true := decide_eq_true (by omega)
    go_wp2_with fail
    go_ret
    exact ⟨rfl, by have := HBX.out; subst this; exact HW1.out⟩
end Go.Proofs.Ytmdcfiejkbhgpaa
