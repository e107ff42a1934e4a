/-
  spf.back: the least costs from all nodes to one.
-/
import Derived.Test.YtmdcfiejkbhgpaaDist
import Derived.Test.YtmdcfiejkbhgpaaRight
import Derived.Test.YtmdcfiejkbhgpaaShS
namespace Go.Proofs.Ytmdcfiejkbhgpaa
open Go.RowKit

theorem turn_take {l : List Lk} {i : Nat} {f t c : Int} (hx : l[i]? = some ⟨f, t, c⟩) : (l.take (i + 1)).map turn = (l.take i).map turn ++ [⟨t, f, c⟩] := by
  rw [List.take_add_one, hx, List.map_append]
  rfl
/-- the call gives a row of the least costs to a node -/
def RowB (w : World) (n : Int) (l : List Lk) (t : Int) (e : Ending) (w' : World) : Prop :=
  ∃ b, e = .returned (.slice (some ⟨b, 0, none⟩) n.toNat n.toNat) ∧ RowZ w' w.heap.size b n.toNat (fun v => D l v t) ∧ Below w.heap.size w w'

set_option maxRecDepth 100000 in
set_option maxHeartbeats 8000000 in
theorem back_any {w : World} {A : Option Addr} {m c : Nat} {n t : Int} {l : List Lk} (hr : Rd lkc 3 w A m l) (hg : GOk n l) (ht : 0 ≤ t ∧ t < n) (hm : m ≤ 1000) :
    Calls Try.prog 49 #[.int .i64 n, .slice A m c, .int .i64 t] w (RowB w n l t) := by
  have HL := Lib.hid hr
  have HM := Lib.hid hr.1
  have HG := Lib.hid hg
  have HT := Lib.hid ht
  have hbw : Below w.heap.size w w := Below.refl _ _
  clear hr hg ht
  go_enter Try.func49, Try.ntmps49
  go_wp2_with fail
  go_loopw [7, 12] (fun o v wr => ∃ i : Nat, i ≤ m ∧ v = .int .i64 i ∧ LksAt wr w.heap.size o ((l.take i).map turn) ∧ Below w.heap.size w wr) (fun _ v _ => m - (intOf v).toNat)
  case atStart => exact ⟨0, Nat.zero_le _, rfl, lksAt_nil _ _, hbw⟩
  case round =>
    rename_i u7 u8
    obtain ⟨i, hi, rfl, hown, hbr⟩ := hrel
    have HO := Lib.hid hown
    have HB := Lib.hid hbr
    have hi0 : (0 : Int) ≤ i := by omega
    by_cases hlt : i < m
    · obtain ⟨⟨xf, xt, xc⟩, b1, off, hx, rfl, hcell⟩ := (HL.out.below HB.out).at_ hlt
      have hi1 : (i : Int) < m := by omega
      have c0 := hcell 0 _ rfl
      have c1 := hcell 1 _ rfl
      have c2 := hcell 2 _ rfl
      rw [Nat.add_zero] at c0
      simp only at c0 c1 c2
      have HST := Lib.hid (turn_take hx)
      have hlen6 : ((l.take i).map turn).length ≤ 1000000 := by
        rw [List.length_map, List.length_take]
        omega
      clear hx hcell hown hbr
      go_upto_region 5 with fail
      have HBX := Lib.hid (show BoxL (wr.alloc (.cells #[.int .i64 xf, .int .i64 xt, .int .i64 xc] 34)) wr.heap.size xf xt xc from heap_alloc_new _ _)
      have HBA := Lib.hid (HB.out.alloc HB.out.size (.cells #[.int .i64 xf, .int .i64 xt, .int .i64 xc] 34))
      have HOA := Lib.hid (HO.out.below (below_al1 wr (.cells #[.int .i64 xf, .int .i64 xt, .int .i64 xc] 34)))
      generalize hA : wr.heap.size = bl at HBX ⊢
      clear hA
      generalize World.alloc _ _ = wa at HBX HBA HOA ⊢
      clear c0 c1 c2 HO HB
      obtain ⟨q, q0, q1, q2⟩ := HBX.out.cells
      go_wp2_with (at_builtin; refine app_link rfl (.tmp 16) (.tmp 24) rfl w.heap.size _ _ ⟨xt, xf, xc⟩ rfl (HOA.out.below (below_al1 _ _)) wa.heap.size rfl (one_link _ _ _ _) hlen6 (HBA.out.alloc HBA.out.size _).size ?_; intro v2 w2 hown2 hg2; have HO2 := Lib.hid hown2; have HB2 := Lib.hid (lksAt_app (HBA.out.alloc HBA.out.size _) (HOA.out.below (below_al1 _ _)) hg2); clear hown2 hg2)
      go_roundw
      case rel => exact ⟨i + 1, by omega, by go_num, by rw [HST.out]; exact HO2.out, HB2.out⟩
      case measure => simp [intOf]; omega
    · have hge : ¬ (i : Int) < m := by omega
      have hrow : LksAt wr w.heap.size u7 (l.map turn) := by
        have := HO.out
        rwa [List.take_of_length_le (by rw [HM.out]; omega)] at this
      obtain ⟨A', c', rfl, hrd⟩ := hrow.rd
      have HDI := Lib.hid (dist_any (c := c') hrd HG.out.turn HT.out (by rw [List.length_map, HM.out]; exact hm))
      rw [List.length_map] at HDI
      simp only [List.length_map]
      clear hrow hrd hown hbr
      go_wp2_with (go_at_call 46; refine (HDI.out).mono ?_; rintro e w2 ⟨b, rfl, hz, hb2⟩)
      go_ret
      exact ⟨b, rfl, RowZ.congr (Z := D (l.map turn) t) (own_mono hz HB.out.size) (fun j _ => D_turn HG.out.pos j t), HB.out.trans (hb2.mono HB.out.size)⟩
end Go.Proofs.Ytmdcfiejkbhgpaa
