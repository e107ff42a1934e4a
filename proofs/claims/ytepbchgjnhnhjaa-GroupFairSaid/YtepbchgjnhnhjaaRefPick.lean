/-
  The reference's Pick: the row in which each way stands as often as its weight tells.
-/
import Derived.Test.YtepbchgjnhnhjaaRefNorm
namespace Go.Proofs.Ytepbchgjnhnhjaa
open Go.RowKit
namespace Grp
/-- the row of the first k ways -/
def rows (l : List W) : Nat → List Nat
  | 0 => []
  | k + 1 => rows l k ++ List.replicate (l.getD k (0, 0)).2.toNat k
def refPick (l : List W) (hash : Int) : Int := if check l = 0 then (((rows l l.length).getD (hash % ((rows l l.length).length : Int)).toNat 0 : Nat) : Int) else -1
theorem rows_length {l : List W} (h : check l = 0) (k : Nat) (hk : k ≤ l.length) : ((rows l k).length : Int) = sumW (l.take k) := by
  induction k with
  | zero => simp [rows, sumW]
  | succ k ih =>
    obtain ⟨x, hx⟩ : ∃ x, l[k]? = some x := ⟨_, List.getElem?_eq_getElem (by omega)⟩
    have hxx := wrong_of h (List.mem_of_getElem? hx)
    have e1 : l.getD k (0, 0) = x := by rw [List.getD_eq_getElem?_getD, hx]; rfl
    rw [rows, take_snoc hx, sumW_snoc, List.length_append, List.length_replicate, e1]
    have := ih (by omega)
    omega
end Grp

theorem Try.info_int : (Try.prog.info? 3).map (fun i => (i.zero, i.size, i.bytes)) = some (some (.int .i64 0), 1, 8) := by kernel_rfl

def nats (l : List Nat) : List Value := l.map fun (i : Nat) => .int .i64 (i : Int)
theorem nats_one (l : List Nat) : ∀ u ∈ nats l, u.oneCell' = true := by
  intro u hu
  obtain ⟨x, _, rfl⟩ := List.mem_map.1 hu
  rfl
theorem new_nat (w : World) (i : Nat) (t : TypeId) : ∀ j u, (nats [i])[j]? = some u → (w.alloc (.cells #[.int .i64 (i : Int)] t)).cell? ((⟨w.heap.size, 0, none⟩ : Addr).add j) = some u := by
  intro j u hu
  match j, hu with
  | 0, hu => simp [nats] at hu; subst hu; simp [Addr.add]
  | j + 1, hu => simp [nats] at hu

set_option maxHeartbeats 2000000 in
theorem refPick_any (A : Option Addr) (n c : Nat) (l : List (Int × Int)) (hash : Int) (w : World) (hl : Ways w A n l) (hh : 0 ≤ hash ∧ hash ≤ 4294967295) :
    Calls Try.prog 13 #[.slice A n c, .int .u32 hash] w fun e w' => e = .returned (.int .i64 (Grp.refPick l hash)) ∧ Below w.heap.size w w' := by
  obtain ⟨hh0, hh1⟩ := hh
  have hchk := refCheck_any A n c l w hl
  obtain ⟨i0, hi, hz0, hz1, hz2⟩ := info_parts Try.info_int
  have HI := Lib.hid hi; have HZ0 := Lib.hid hz0; have HZ1 := Lib.hid hz1; have HZ2 := Lib.hid hz2
  have HC := Lib.hid hchk; have HL := Lib.hid hl
  clear hchk hl hi hz0 hz1 hz2
  by_cases h0 : Grp.check l = 0
  · have hval : Grp.refPick l hash = (((Grp.rows l l.length).getD (hash % ((Grp.rows l l.length).length : Int)).toNat 0 : Nat) : Int) := by rw [Grp.refPick, if_pos h0]
    have H0 := Lib.hid h0
    have HV := Lib.hid hval
    rw [h0] at HC
    clear h0 hval
    generalize Grp.refPick l hash = val at HV ⊢
    have hn16 := (Grp.len_of H0.out).2
    rw [HL.out.1] at hn16
    go_enter Try.func13, Try.ntmps13
    go_wp2_with (go_at_call 9; refine (HC.out).mono ?_; rintro e w3 ⟨rfl, hb3⟩)
    go_loopw [5, 6] (fun v i W => ∃ k : Nat, k ≤ n ∧ i = .int .i64 k ∧ W.ownsRow w.heap.size 3 1 v (Grp.rows l k).length (nats (Grp.rows l k)) ∧ Below w.heap.size w W) (fun _ i _ => n - (intOf i).toNat)
    case atStart => exact ⟨0, Nat.zero_le _, rfl, World.ownsRow_nil _ _ _ _, hb3⟩
    case round =>
      obtain ⟨k, hk, rfl, hown, hbk⟩ := hrel
      have HOWN := Lib.hid hown
      have hlen := Grp.rows_length H0.out k (by have := HL.out.1; omega)
      have hbd := (Grp.sumW_take_bd H0.out k).2
      clear hown
      by_cases hlt : k < n
      · obtain ⟨x, hx⟩ : ∃ x, l[k]? = some x := ⟨_, List.getElem?_eq_getElem (by have := HL.out.1; omega)⟩
        obtain ⟨-, hx0, hx1⟩ := Grp.wrong_of H0.out (List.mem_of_getElem? hx)
        have hrs : Grp.rows l (k + 1) = Grp.rows l k ++ List.replicate x.2.toNat k := by rw [Grp.rows, getD_of hx]
        have HRS := Lib.hid hrs
        have HX := Lib.hid hx
        clear hrs hx
        generalize Grp.rows l k = r at HOWN HRS hlen
        rw [← hlen] at hbd
        have hrl : r.length ≤ 4080 := by omega
        clear hlen hbd
        go_wp2
        obtain ⟨wo, rfl⟩ : ∃ wo : World, wo = wr := ⟨_, rfl⟩
        go_loopw [5, 7] (fun v j W => ∃ q : Nat, (q : Int) ≤ x.2 ∧ j = .int .i64 q ∧ W.ownsRow w.heap.size 3 1 v (r.length + q) (nats (r ++ List.replicate q k)) ∧ Below w.heap.size w W) (fun _ j _ => x.2.toNat - (intOf j).toNat)
        case atStart => exact ⟨0, by omega, rfl, by simpa using HOWN.out, hbk⟩
        case round =>
          obtain ⟨q, hq, rfl, hown, hbq⟩ := hrel
          have HOW := Lib.hid hown
          clear hown
          obtain ⟨x', b, off, hx', hA, hc0, hc1⟩ := (HL.out.below hbq).at_ hlt
          rw [HX.out] at hx'
          injection hx' with hx'
          subst hx'
          subst hA
          have hz := hbq.size
          by_cases hqx : (q : Int) < x.2
          · go_wp2_with (at_builtin; refine wpList_append_own _ rfl _ _ 35 rfl w.heap.size 3 i0 (.int .i64 0) 1 8 Try.underlying35 HI.out HZ0.out HZ1.out HZ2.out rfl (by decide) u5 (r.length + q) (nats (r ++ List.replicate q k)) rfl (HOW.out.alloc _) ⟨wr.heap.size, 0, none⟩ 1 1 (nats [k]) rfl rfl (new_nat _ _ _) (nats_one _) (by simp [maxLen]; omega) (by omega) (by simp; omega) ?_; intro v' w1 hown' hgrow _)
            go_roundw
            case rel =>
              refine ⟨q + 1, by omega, by go_num, ?_, ?_⟩
              · rw [List.replicate_succ', ← List.append_assoc]
                have : nats (r ++ List.replicate q k ++ [k]) = nats (r ++ List.replicate q k) ++ nats [k] := by simp [nats]
                rw [this]
                exact hown'
              · exact (hbq.alloc hbq.size _).grown hgrow (by simp; omega) (fun g hg => (HOW.out.lt g hg).1)
            case measure => simp [intOf]; omega
          · have hqq : x.2 = q := by omega
            have hqn : x.2.toNat = q := by omega
            go_wp2
            go_roundw
            case rel =>
              refine ⟨k + 1, by omega, by go_num, ?_, hbq⟩
              rw [HRS.out, hqn, List.length_append, List.length_replicate]
              exact HOW.out
            case measure => simp [intOf]; omega
      · have hkn : n = k := by omega
        subst hkn
        have hpos := (Grp.sumW_all_bd H0.out).1
        rw [List.take_of_length_le (by have := HL.out.1; omega)] at hlen
        rw [← hlen] at hpos
        have hv2 : Hid (val = (((Grp.rows l n).getD (hash % ((Grp.rows l n).length : Int)).toNat 0 : Nat) : Int)) := by
          have := HV.out
          rw [HL.out.1] at this
          exact this
        clear hlen hbd
        generalize Grp.rows l n = r at HOWN hv2 hpos
        have hr1 : 0 < r.length := by omega
        have hm0 := Int.emod_nonneg hash (b := (r.length : Int)) (by omega)
        have hm1 := Int.emod_lt_of_pos hash (b := (r.length : Int)) (by omega)
        obtain ⟨g, cap, hv⟩ : ∃ g cap, u5 = .slice (some ⟨g, 0, none⟩) r.length cap := by
          rcases HOWN.out.2 with ⟨_, h⟩ | ⟨g, cap, cur, hv, _⟩
          · omega
          · exact ⟨g, cap, hv⟩
        subst hv
        obtain ⟨m, hm⟩ : ∃ m : Nat, hash % (r.length : Int) = m := ⟨(hash % (r.length : Int)).toNat, by omega⟩
        have hmr : m < r.length := by omega
        have hcell : wr.cell? ⟨g, m, none⟩ = some (.int .i64 ((r.getD m 0 : Nat) : Int)) := by
          rw [HOWN.out.cellAt _ (by omega), nats, List.getElem?_map, List.getElem?_eq_getElem hmr, List.getD_eq_getElem?_getD, List.getElem?_eq_getElem hmr]
          rfl
        have hv3 : Hid (val = ((r.getD m 0 : Nat) : Int)) := by
          have := hv2.out
          rw [hm] at this
          exact this
        generalize ((r.getD m 0 : Nat) : Int) = z at hcell hv3
        clear hv2
        go_wp2
        go_ret
        exact ⟨ret_int hv3.out.symm, hbk⟩
  · have hval : Grp.refPick l hash = -1 := by rw [Grp.refPick, if_neg h0]
    rw [hval]
    have hne : (Grp.check l != 0) = true := by simpa using h0
    clear hval h0
    generalize Grp.check l = ck at HC hne
    go_enter Try.func13, Try.ntmps13
    go_wp2_with (go_at_call 9; refine (HC.out).mono ?_; rintro e w1 ⟨rfl, hb1⟩)
    go_ret
    exact ⟨rfl, hb1⟩

end Go.Proofs.Ytepbchgjnhnhjaa
