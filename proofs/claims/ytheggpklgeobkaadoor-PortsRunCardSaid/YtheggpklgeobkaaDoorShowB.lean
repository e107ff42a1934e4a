/-
  The program's Show.
-/
import Derived.Test.YtheggpklgeobkaaDoorShow
import Derived.Shelf.RegionOpen
namespace Go.Proofs.YtheggpklgeobkaaDoor
open Go.RowKit Go.Shelf
attribute [local go_sem] Oper.semAt_some

abbrev PeOk := { e : Pe // OkE e }
def pv (x : PeOk) : Pe := x.1
theorem okE_lift {g : PG} (hok : OkS (abs g)) : ∀ (k : Nat) x, g k = some x → k < 64 → ∃ y : PeOk, pv y = ⟨k, x.2.1, x.2.2⟩ := by
  intro k x hx hk
  have h := hok k x.2 (by simp [abs, hx])
  exact ⟨⟨⟨k, x.2.1, x.2.2⟩, ⟨by simp only; omega, by simp only; omega, h.1, h.2⟩⟩, rfl⟩
theorem showP_okLen (l : List PeOk) : (showP (l.map pv)).length ≤ 58 * l.length := by
  have := showP_len (l := l.map pv) (fun e he => by obtain ⟨x, _, rfl⟩ := List.mem_map.1 he; exact x.2)
  rwa [List.length_map] at this

theorem box3_below {W W' : World} (h : Below W.heap.size W W') {b : Nat} {x : Pe} (hb : Box3 W b x) : Box3 W' b x := by
  have h' : W.heap[b]? = _ := hb
  exact (h.block b (Array.getElem?_eq_some_iff.1 h').1).trans h'
theorem box3_others {W W' : World} {B : Nat} (h : Lib.OthersKept 5 (some B) W W') {b : Nat} (hne : B < b) {x : Pe} (hb : Box3 W b x) : Box3 W' b x :=
  h b _ hb (fun e => by cases e; omega) (fun c fz e => by cases e)

set_option maxRecDepth 100000 in
set_option maxHeartbeats 4000000 in
theorem show_in (p : Option Addr) (n₀ : Nat) (xs : List Pe) (w : World) (ht : Tab w) (hst : ∀ w', Below w.heap.size w w' → w.heap.size + 1 < w'.heap.size → w'.cell? ⟨w.heap.size + 1, 0, none⟩ = some (.pointer p) → Stops pv 5 (w.heap.size + 1) n₀ xs w') (hn₀ : n₀ ≤ w.heap.size) :
    CallsIn Fence.wide 6 Tryd.prog 15 #[.pointer p] w fun e W' => e = .returned (.string (txt (showP xs))) ∧ Below w.heap.size w W' := by
  have h1 : 1 ≤ 6 := by decide
  have HT := Lib.hid (fun w' (h : Below w.heap.size w w') => ht.below h)
  clear ht
  refine callsIn_of_wp_marks Tryd.func15 rfl trivial ?_ rfl
  simp only [Tryd.ntmps15, List.size_toArray, List.length_cons, List.length_nil, Nat.reduceAdd, Nat.reduceSub, Array.replicate_succ, Array.replicate_zero, List.push_toArray, List.append_toArray, List.nil_append, List.cons_append]
  gi_wp2_with (refine ⟨trivial, ?_⟩; gi_at_call 25; refine (callsIn_wide.2 (each_any _ _)).mono ?_; rintro e w' ⟨rfl, rfl⟩)
  have tO := (TxtF.start w).below (below_al1 _ (.cells #[.pointer p] 24))
  have hB0 : Below w.heap.size w ((w.alloc (.cells #[.pointer none, .slice none 0 0] 65)).alloc (.cells #[.pointer p] 24)) := by go_grown
  have hST := hst _ hB0 (by simp) (by
    have := cell_of_row _ _ 0 _ _ (0, 0) (heap_alloc_new (w.alloc (.cells #[.pointer none, .slice none 0 0] 65)) (.cells #[.pointer p] 24))
    rw [World.size_alloc] at this
    rw [this]; rfl)
  have hsz : ((w.alloc (.cells #[.pointer none, .slice none 0 0] 65)).alloc (.cells #[.pointer p] 24)).heap.size = w.heap.size + 2 := by simp
  clear hst
  generalize World.alloc _ _ = W0 at tO hB0 hST hsz ⊢
  refine wpIn_rangeFunc_ownH rfl h1 (gf := 32) (lb := #[.pointer (some ⟨w.heap.size + 1, 0, none⟩)]) rfl trivial (enters_of Tryd.func32 (by kernel_rfl) rfl)
    hST belowK_t (belowK_b (by omega)) (Below.refl _ _) (fun _ => rfl)
    (fun pre W => TxtF w.heap.size (showP (pre.map pv)) W ∧ Below w.heap.size w W)
    (fun _ _ _ => False)
    (OwnFrom.and (Own.from (fun s X Y row hs hg hr => hs.kept hg hr) _) (ownFrom_below (Nat.le_refl _) (by omega)))
    (fun _ _ _ _ _ hs _ _ => hs)
    ⟨tO, hB0⟩
    (fun x a' W => ∃ Bx, w.heap.size < Bx ∧ Box3 W Bx x.1 ∧ a' = { tmps := #[.pointer p, undef, .string ⟨#[]⟩, .pointer (some ⟨w.heap.size, 0, none⟩), .pointer (some ⟨Bx, 0, none⟩), .pointer p, .func (.func 32) #[] #[.pointer (some ⟨w.heap.size + 1, 0, none⟩)], .agg #[.int .i64 x.1.num, .int .i64 x.1.mtu, .bool x.1.up], undef, undef, undef, undef, undef, undef, undef, undef, undef, undef, undef, undef, undef, undef, undef, undef], defers := [] })
    (fun x a' _ X Y row hs hg hr => by obtain ⟨Bx, h1, h2, h3⟩ := hs; exact ⟨Bx, h1, box3_own Bx x.1 () X Y row h2 hg (fun r e => (hr r e).2), h3⟩)
    ?assign ?body ?done ?stop
  case assign =>
    rintro l pre x W K ⟨hv, hB⟩ hK
    unfold encP pv
    gi_wp2
    exact hK _ _ ((KeepsOthers.alloc _ _).from _) ((Below.refl _ W).alloc (by have := hB.size; omega) _) ⟨hv.below (below_al1 _ _), hB.alloc hB.size _⟩ ⟨W.heap.size, hv.lt, heap_alloc_new _ _, rfl⟩
  case body =>
    rintro l pre ⟨⟨num, mtu, up⟩, hox⟩ a' W hl ⟨r, hr⟩ ⟨hv, hB⟩ ⟨Bx, hBx, bX, rfl⟩ hlt
    obtain ⟨c, c0, c1, c2⟩ := box3_cells bX
    simp only at c0 c1 c2 ⊢
    obtain ⟨o1, o2, o3, o4⟩ := hox
    simp only at o1 o2 o3 o4
    have hil1 := itoa_len num (by omega) (by omega)
    have hil2 := itoa_len mtu (by omega) (by omega)
    have HSP := Lib.hid (showP_okLen pre)
    have HLEN := Lib.hid hlt
    have n1 : ¬ 9223372036854775807 < 5 + (Lib.itoa num).length := by omega
    have n2 : ¬ 9223372036854775807 < 5 + (Lib.itoa num).length + 5 := by omega
    have n3 : ¬ 9223372036854775807 < 5 + (Lib.itoa num).length + 5 + (Lib.itoa mtu).length := by omega
    have HEQ : Hid ((⟨#[112, 111, 114, 116, 32]⟩ : ByteArray) ++ txt (Lib.itoa num) ++ ⟨#[32, 109, 116, 117, 32]⟩ ++ txt (Lib.itoa mtu) = txt (line1 ⟨num, mtu, up⟩)) := Lib.hid (by unfold line1; rw [← txt_append, ← txt_append, ← txt_append]; rfl)
    have HL1 := Lib.hid (line1_len (e := ⟨num, mtu, up⟩) ⟨o1, o2, o3, o4⟩)
    have HV := Lib.hid hv
    have HB := Lib.hid hB
    clear hv hB hlt
    gi_upto_region 4 with fail
    have hmx : Tryd.prog.follows .mixedOrders = true := by kernel_rfl
    have HBX := Lib.hid bX
    have HS0 := Lib.hid (show W.heap.size ≥ w.heap.size by have := HB.out.size; omega)
    gi_cut [] from 8 (fun wx => TxtF w.heap.size (showP (pre.map pv) ++ line1 ⟨num, mtu, up⟩) wx ∧ Below w.heap.size W wx ∧ KeepsOthers W wx ∧ Box3 wx Bx ⟨num, mtu, up⟩)
    · have HCB := Lib.hid (fun w' (h : Below W.heap.size W w') => And.intro ((h.cell (p := ⟨Bx, 0, none⟩) c).trans c0) (And.intro ((h.cell (p := ⟨Bx, 1, none⟩) c).trans c1) ((h.cell (p := ⟨Bx, 2, none⟩) c).trans c2)))
      have hch1 : Below W.heap.size W W.drew := (Below.refl _ _).drew
      gi_region_with_o (first
        | (refine ⟨trivial, ?_⟩; gi_at_call 27; (with_reducible refine (CallsIn.inRound l (callsIn_wide.2 (dig_any _ (by omega) (by omega) _ (HT.out _ (HB.out.trans (Below.mono (by assumption) HS0.out)))))).mono ?_); rintro e wA ⟨rfl, hbA⟩; have hchA := below_step (by assumption) hbA; obtain ⟨q0, q1, q2⟩ := HCB.out _ hchA)
        | (refine ⟨trivial, ?_⟩; gi_at_call 26; rw [HEQ.out]; (with_reducible refine (CallsIn.inRound l (callsIn_wide.2 (txtF_write (line1 ⟨num, mtu, up⟩) (HV.out.below (by assumption)) ?_ ?_))).mono ?_); (have := HSP.out; have := HL1.out; have := HLEN.out; omega); (exact Nat.le_trans HS0.out (Below.size (by assumption))); rintro e wB ⟨rfl, htB, hbB, hkB, hoB⟩; have HF := Lib.hid (And.intro htB (And.intro (Below.trans (Below.mono (by assumption) HS0.out) hbB) (And.intro (KeepsOthers.trans (keeps_of_below (by assumption)) hkB) (box3_others hoB (by omega) (box3_below (by assumption) HBX.out)))))))
      all_goals
        gi_wp2_with fail
        gi_meet
        case rel => exact HF.out
    case rest =>
      obtain ⟨t1, b1, k1, x1⟩ := hcut
      obtain ⟨d, d0, d1, d2⟩ := box3_cells x1
      have T1 := Lib.hid t1
      have B1 := Lib.hid b1
      have K1 := Lib.hid k1
      have HS1 := Lib.hid (Nat.le_trans HS0.out b1.size)
      have HL2 := Lib.hid (show (showP (pre.map pv) ++ line1 ⟨num, mtu, up⟩).length ≤ 4000 by rw [List.length_append]; have := HSP.out; have := HL1.out; have := HLEN.out; omega)
      clear t1 b1 k1 x1 d0 d1 c0 c1 c2
      cases up
      · gi_wp2_with fail
        refine ⟨trivial, ?_⟩
        rw [show (⟨#[32, 100, 111, 119, 110]⟩ : ByteArray) = txt [32, 100, 111, 119, 110] from rfl]
        refine (CallsIn.inRound l (callsIn_wide.2 (txtF_write [32, 100, 111, 119, 110] T1.out (by have := HL2.out; simp only [List.length_cons, List.length_nil]; omega) HS1.out))).mono ?_
        rintro e w2 ⟨rfl, ht2, hb2, hk2, -⟩
        have T2 := Lib.hid ht2
        have B2 := Lib.hid (B1.out.trans hb2)
        have K2 := Lib.hid (K1.out.trans hk2)
        have HS2 := Lib.hid (Nat.le_trans HS1.out hb2.size)
        clear ht2 hb2 hk2
        gi_wp2_with fail
        refine ⟨trivial, ?_⟩
        rw [show (⟨#[10]⟩ : ByteArray) = txt [10] from rfl]
        refine (CallsIn.inRound l (callsIn_wide.2 (txtF_write [10] T2.out (by have := HL2.out; rw [List.length_append]; simp only [List.length_cons, List.length_nil]; omega) HS2.out))).mono ?_
        rintro e w3 ⟨rfl, ht3, hb3, hk3, -⟩
        have T3 := Lib.hid ht3
        have B3 := Lib.hid (B2.out.trans hb3)
        have K3 := Lib.hid (K2.out.trans hk3)
        clear ht3 hb3 hk3
        gi_wp2_with fail
        refine ⟨K3.out.from _, B3.out.mono hn₀, ?_, HB.out.trans B3.out⟩
        rw [List.map_append, List.map_cons, List.map_nil, showP_snoc]
        have h := T3.out
        rw [List.append_assoc, List.append_assoc] at h
        exact h
      · gi_wp2_with fail
        refine ⟨trivial, ?_⟩
        rw [show (⟨#[32, 117, 112]⟩ : ByteArray) = txt [32, 117, 112] from rfl]
        refine (CallsIn.inRound l (callsIn_wide.2 (txtF_write [32, 117, 112] T1.out (by have := HL2.out; simp only [List.length_cons, List.length_nil]; omega) HS1.out))).mono ?_
        rintro e w2 ⟨rfl, ht2, hb2, hk2, -⟩
        have T2 := Lib.hid ht2
        have B2 := Lib.hid (B1.out.trans hb2)
        have K2 := Lib.hid (K1.out.trans hk2)
        have HS2 := Lib.hid (Nat.le_trans HS1.out hb2.size)
        clear ht2 hb2 hk2
        gi_wp2_with fail
        refine ⟨trivial, ?_⟩
        rw [show (⟨#[10]⟩ : ByteArray) = txt [10] from rfl]
        refine (CallsIn.inRound l (callsIn_wide.2 (txtF_write [10] T2.out (by have := HL2.out; rw [List.length_append]; simp only [List.length_cons, List.length_nil]; omega) HS2.out))).mono ?_
        rintro e w3 ⟨rfl, ht3, hb3, hk3, -⟩
        have T3 := Lib.hid ht3
        have B3 := Lib.hid (B2.out.trans hb3)
        have K3 := Lib.hid (K2.out.trans hk3)
        clear ht3 hb3 hk3
        gi_wp2_with fail
        refine ⟨K3.out.from _, B3.out.mono hn₀, ?_, HB.out.trans B3.out⟩
        rw [List.map_append, List.map_cons, List.map_nil, showP_snoc]
        have h := T3.out
        rw [List.append_assoc, List.append_assoc] at h
        exact h
  case done =>
    rintro D ys W hD hys ⟨hv, hB⟩ hK
    rw [hys] at hv
    have HV := Lib.hid hv
    have HBB := Lib.hid hB
    clear hv hB hys
    gi_wp2_with (refine ⟨trivial, ?_⟩; gi_at_call 28; refine (callsIn_wide.2 (stringF_calls HV.out HBB.out.size)).mono ?_; rintro e w1 ⟨rfl, hb1, hk1⟩; have HB1 := Lib.hid hb1; have HK1 := Lib.hid hk1; clear hb1 hk1)
    have hK1 := HK1.out.same D _ hK rfl
    refine ⟨by simp, .inl ⟨_, _, rfl, run_takeDeferred hK1, ?_⟩⟩
    exact ⟨_, results_tmp rfl _ _ _, rfl, HBB.out.trans (HB1.out.trans (belowK_b (w := w) (Nat.le_refl _) w1 D _ _ (by omega) hK1 rfl rfl))⟩
  case stop =>
    rintro D c pre W _ _ h _
    exact h.elim
end Go.Proofs.YtheggpklgeobkaaDoor
