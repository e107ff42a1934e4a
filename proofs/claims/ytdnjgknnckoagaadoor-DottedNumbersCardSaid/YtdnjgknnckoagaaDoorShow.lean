/-
  Show, the reference's and the program's: one text.
-/
import Derived.Test.YtdnjgknnckoagaaDoorFlags
import Derived.Test.YtdnjgknnckoagaaDoorDig
import Derived.Test.YtdnjgknnckoagaaDoorShJ
import Derived.StillTailTactics
import Derived.Deep.DeepCutAuto
import Derived.Deep.CutRange
import Derived.Deep.RegionHeld3
namespace Go.Proofs.YtdnjgknnckoagaaDoor
open Go.RowKit

/-- a byte -/
def by8 (a : Int) : Prop := 0 ≤ a ∧ a ≤ 255
def ith (a b c d : Int) : Nat → Int
  | 0 => a
  | 1 => b
  | 2 => c
  | _ => d
/-- the text of the first k numbers -/
def dots (a b c d : Int) : Nat → List UInt8
  | 0 => []
  | 1 => Lib.itoa a
  | k + 2 => dots a b c d (k + 1) ++ ([46] ++ Lib.itoa (ith a b c d (k + 1)))
def showA (a b c d : Int) : List UInt8 := dots a b c d 4
theorem by8_len {a : Int} (h : by8 a) : (Lib.itoa a).length ≤ 21 := itoa_len a (by have := h.1; omega) (by have := h.2; omega)
theorem ith_by8 {a b c d : Int} (ha : by8 a) (hb : by8 b) (hc : by8 c) (hd : by8 d) : ∀ k, by8 (ith a b c d k)
  | 0 => ha
  | 1 => hb
  | 2 => hc
  | _ + 3 => hd
theorem dots_len {a b c d : Int} (ha : by8 a) (hb : by8 b) (hc : by8 c) (hd : by8 d) : ∀ k, (dots a b c d k).length ≤ 30 * k
  | 0 => by simp [dots]
  | 1 => by have := by8_len ha; simp only [dots]; omega
  | k + 2 => by
    have h1 := dots_len ha hb hc hd (k + 1)
    have h2 := by8_len (ith_by8 ha hb hc hd (k + 1))
    simp only [dots, List.length_append, List.length_cons, List.length_nil]
    omega
theorem dots_step (a b c d : Int) (k : Nat) : txt (dots a b c d (k + 1)) ++ (⟨#[46]⟩ : ByteArray) ++ txt (Lib.itoa (ith a b c d (k + 1))) = txt (dots a b c d (k + 2)) := by
  show _ = txt (dots a b c d (k + 1) ++ ([46] ++ Lib.itoa (ith a b c d (k + 1))))
  rw [← List.append_assoc, ← txt_append, ← txt_append]; rfl

set_option maxRecDepth 100000 in
set_option maxHeartbeats 2000000 in
theorem rshow_any {a b c d : Int} (ha : by8 a) (hb : by8 b) (hc : by8 c) (hd : by8 d) (w : World) :
    Calls Tryd.prog 9 #[av a b c d] w fun e w' => e = .returned (.string (txt (showA a b c d))) ∧ Below w.heap.size w w' := by
  have HL := Lib.hid (dots_len ha hb hc hd)
  have HI := Lib.hid (ith_by8 ha hb hc hd)
  have HST := Lib.hid (dots_step a b c d)
  have HB : Hid (Below w.heap.size w (w.alloc (.cells #[.int .u8 a, .int .u8 b, .int .u8 c, .int .u8 d] 22))) := Lib.hid (by go_grown)
  have HC : Hid (∀ k : Nat, k < 4 → (w.alloc (.cells #[.int .u8 a, .int .u8 b, .int .u8 c, .int .u8 d] 22)).cell? ⟨w.heap.size, k, none⟩ = some (.int .u8 (ith a b c d k))) := Lib.hid (fun k hk => by
    rw [cell_of_row _ _ _ _ _ (0, 0) (heap_alloc_new _ _)]
    rcases k with _ | _ | _ | _ | k
    · rfl
    · rfl
    · rfl
    · rfl
    · omega)
  clear ha hb hc hd
  unfold av
  go_enter Tryd.func9, Tryd.ntmps9
  go_upto_region 1 with fail
  generalize w.alloc _ = w1 at HB HC ⊢
  go_wp2_with fail
  go_loop [3, 4] (fun s u => ∃ k : Nat, k ≤ 4 ∧ u = .int .i64 k ∧ s = .string (txt (dots a b c d k))) (fun _ u => 4 - (intOf u).toNat)
  case atStart => exact ⟨0, Nat.zero_le _, rfl, rfl⟩
  case round =>
    obtain ⟨k, hk, rfl, rfl⟩ := hrel
    by_cases hlt : k < 4
    · have hk0 : (0 : Int) ≤ k := by omega
      have hk4 : (k : Int) < 4 := by omega
      have hi := HI.out k
      unfold by8 at hi
      have hl := HL.out k
      have hcell := HC.out k hlt
      have hil := itoa_len (ith a b c d k) (by omega) (by omega)
      rcases k with _ | k
      · go_wp2_with fail
        refine (rdig_any _ (by omega) (by omega) _).mono ?_
        rintro e w2 ⟨rfl, rfl⟩
        go_wp2
        go_round
        case rel => exact ⟨1, by omega, by go_num, rfl⟩
        case measure => decide
      · have hk1 : decide (((k + 1 : Nat) : Int) > 0) = true := decide_eq_true (by omega)
        have hst := HST.out k
        have e1 : ¬ 9223372036854775807 < (dots a b c d (k + 1)).length + 1 := by omega
        have e2 : ¬ 9223372036854775807 < (dots a b c d (k + 1)).length + 1 + (Lib.itoa (ith a b c d (k + 1))).length := by omega
        go_wp2_with fail
        refine (rdig_any _ (by omega) (by omega) _).mono ?_
        rintro e w2 ⟨rfl, rfl⟩
        go_wp2
        go_round
        case rel => exact ⟨k + 2, by omega, by go_num, rfl⟩
        case measure => simp [intOf]; omega
    · obtain rfl : k = 4 := by omega
      go_wp2
      go_ret
      exact ⟨rfl, HB.out⟩

theorem Tryd.info_string : (Tryd.prog.info? 9).map (fun i => (i.zero, i.size, i.bytes)) = some (some (.string ⟨#[]⟩), 1, 16) := by kernel_rfl
theorem info_parts {o : Option TypeInfo} {z : Option Value} {n m : Nat} (h : o.map (fun i => (i.zero, i.size, i.bytes)) = some (z, n, m)) : ∃ i, o = some i ∧ i.zero = z ∧ i.size = n ∧ i.bytes = m := by
  cases o with
  | none => simp at h
  | some i => simp at h; exact ⟨i, rfl, h.1, h.2.1, h.2.2⟩
/-- the first k numbers' texts, as strings, as cells -/
def prs (a b c d : Int) (k : Nat) : List ByteArray := ((List.range k).map fun i => txt (Lib.itoa (ith a b c d i)))
def strs (l : List ByteArray) : List Value := l.map Value.string
theorem prs_succ (a b c d : Int) (k : Nat) : prs a b c d (k + 1) = prs a b c d k ++ [txt (Lib.itoa (ith a b c d k))] := by simp [prs, List.range_succ]
theorem prs_len (a b c d : Int) (k : Nat) : (prs a b c d k).length = k := by simp [prs]
theorem strs_one (l : List ByteArray) : ∀ u ∈ strs l, u.oneCell' = true := by
  intro u hu
  obtain ⟨x, _, rfl⟩ := List.mem_map.1 hu
  rfl
theorem new_str (w : World) (x : ByteArray) (t : TypeId) : ∀ j u, (strs [x])[j]? = some u → (w.alloc (.cells #[.string x] t)).cell? ((⟨w.heap.size, 0, none⟩ : Addr).add j) = some u := by
  intro j u hu
  match j, hu with
  | 0, hu => simp [strs] at hu; subst hu; simp [Addr.add]
  | j + 1, hu => simp [strs] at hu
theorem join_prs (a b c d : Int) : Lib.join ((prs a b c d 4).map (·.data.toList)) [46] = showA a b c d := by
  simp [prs, List.range_succ, showA, dots, ith, Lib.join, List.intercalate, List.intersperse]
theorem idx4 (a b c d : Int) (k : Nat) (hk : k < 4) (w : World) : (Instr.index 22 (.agg #[.int .u8 a, .int .u8 b, .int .u8 c, .int .u8 d]) (.int .i64 (k : Int))).run Tryd.prog w = .ok (.int .u8 (ith a b c d k)) w := by
  rcases k with _ | _ | _ | _ | k
  · kernel_rfl
  · kernel_rfl
  · kernel_rfl
  · kernel_rfl
  · omega

set_option maxRecDepth 100000 in
set_option maxHeartbeats 4000000 in
theorem show_any {a b c d : Int} (ha : by8 a) (hb : by8 b) (hc : by8 c) (hd : by8 d) (w : World) (ht : Tab w) :
    Calls Tryd.prog 8 #[av a b c d] w fun e w' => e = .returned (.string (txt (showA a b c d))) ∧ Below w.heap.size w w' := by
  obtain ⟨i0, hi, hz0, hz1, hz2⟩ := info_parts Tryd.info_string
  have HI := Lib.hid hi; have HZ0 := Lib.hid hz0; have HZ1 := Lib.hid hz1; have HZ2 := Lib.hid hz2
  have HL := Lib.hid (dots_len ha hb hc hd)
  have HB8 := Lib.hid (ith_by8 ha hb hc hd)
  have HT := Lib.hid (fun w' (h : Below w.heap.size w w') => ht.below h)
  have HB : Hid (Below w.heap.size w (w.alloc (.cells #[.int .u8 a, .int .u8 b, .int .u8 c, .int .u8 d] 22))) := Lib.hid (by go_grown)
  have HX := Lib.hid (idx4 a b c d)
  clear hi hz0 hz1 hz2 ha hb hc hd ht
  unfold av
  go_enter Tryd.func8, Tryd.ntmps8
  go_wp2_with fail
  generalize w.alloc _ = w1 at HB ⊢
  go_loopw [3, 7] (fun v i W => ∃ k : Nat, k ≤ 4 ∧ i = .int .i64 k ∧ W.ownsRow w.heap.size 9 1 v k (strs (prs a b c d k)) ∧ Below w.heap.size w W) (fun _ i _ => 4 - (intOf i).toNat)
  case atStart => exact ⟨0, Nat.zero_le _, rfl, World.ownsRow_nil _ _ _ _, HB.out⟩
  case round =>
    obtain ⟨k, hk, rfl, hown, hbk⟩ := hrel
    have HOWN := Lib.hid hown
    have HBK := Lib.hid hbk
    clear hown hbk
    by_cases hlt : k < 4
    · have hk0 : (0 : Int) ≤ k := by omega
      have hk4 : (k : Int) < 4 := by omega
      have hi := HB8.out k
      unfold by8 at hi
      have hix := HX.out k hlt
      have hwr : IntKind.i64.wrap (ith a b c d k) = ith a b c d k := IntWalk.i64_in _ (by omega)
      go_wp2_with fail
      refine (dig_any _ (by omega) (by omega) _ (HT.out _ HBK.out)).mono ?_
      rintro e w2 ⟨rfl, hb2⟩
      have HO2 := Lib.hid (own_below HOWN.out hb2)
      have HB2 := Lib.hid (HBK.out.trans (hb2.mono HBK.out.size))
      have hs2 := HB2.out.size
      clear hb2 hix hwr hi
      go_wp2_with (at_builtin; refine wpList_append_own _ rfl _ _ 33 rfl w.heap.size 9 i0 (.string ⟨#[]⟩) 1 16 Tryd.underlying33 HI.out HZ0.out HZ1.out HZ2.out rfl (by decide) u3 k (strs (prs a b c d k)) rfl (HO2.out.alloc _) ⟨w2.heap.size, 0, none⟩ 1 1 (strs [txt (Lib.itoa (ith a b c d k))]) rfl rfl (new_str _ _ _) (strs_one _) (by simp [maxLen]; omega) (by omega) (by simp; omega) ?_; intro v' w3 hown' hgrow _)
      go_roundw
      case rel =>
        refine ⟨k + 1, by omega, by go_num, ?_, below_append HB2.out hs2 HO2.out hgrow⟩
        have : strs (prs a b c d (k + 1)) = strs (prs a b c d k) ++ strs [txt (Lib.itoa (ith a b c d k))] := by simp [strs, prs_succ]
        rw [this]
        exact hown'
      case measure => simp [intOf]; omega
    · obtain rfl : k = 4 := by omega
      obtain ⟨g, cap, rfl, hgb, hcap⟩ : ∃ g cap, u3 = .slice (some ⟨g, 0, none⟩) 4 cap ∧ g < wr.heap.size ∧ 4 ≤ cap := by
        obtain ⟨-, ⟨-, h0⟩ | ⟨g, cap, cur, rfl, -, hh, hn, -⟩⟩ := HOWN.out
        · omega
        · exact ⟨g, cap, rfl, (Array.getElem?_eq_some_iff.1 hh).1, hn⟩
      have hlen := HL.out 4
      have HJ := Lib.hid (join_calls g 0 cap (prs a b c d 4) ⟨#[46]⟩ wr (fun j x hx => by
        have hj : j < 4 := by have := (List.getElem?_eq_some_iff.1 hx).1; rwa [prs_len] at this
        rw [Nat.zero_add, HOWN.out.cellAt j (by omega)]
        simp [strs, hx]) hgb (by rw [prs_len]; decide) (by rw [prs_len]; exact hcap) (by
          show (Lib.join ((prs a b c d 4).map (·.data.toList)) [46]).length ≤ _
          rw [join_prs]; unfold showA; omega))
      rw [prs_len] at HJ
      change Hid (Calls _ _ _ _ fun e w' => e = .returned (.string ⟨(Lib.join ((prs a b c d 4).map (·.data.toList)) [46]).toArray⟩) ∧ _) at HJ
      rw [join_prs] at HJ
      clear HOWN hlen
      go_wp2_with fail
      refine (HJ.out).mono ?_
      rintro e w2 ⟨rfl, hb2⟩
      have HF := Lib.hid (HBK.out.trans (hb2.mono HBK.out.size))
      clear hb2 HJ
      go_wp2
      go_ret
      exact ⟨rfl, HF.out⟩
end Go.Proofs.YtdnjgknnckoagaaDoor
