/-
  awake: the document's example.
-/
import Derived.Test.YtpkfmikpgfgbgaaDoorSteps
import Derived.Lib.SlBytesConst
namespace Go.Proofs.YtpkfmikpgfgbgaaDoor
open Go.RowKit

def aZ1 : Nat → Int := addZ zeroZ (dl 0 0 2 3 10)
def aZ2 : Nat → Int := addZ aZ1 (dl 2 10 0 0 10)
def aZ3 : Nat → Int := addZ aZ2 (dl 2 10 0 0 20)
def aZ4 : Nat → Int := addZ aZ3 (dl 9 0 0 0 20)
theorem aZ1_bd : Bd 65540 aZ1 := ((Bd.zero).add (Bd.dl _ _ _ _ _ (by decide))).mono (by decide)
theorem aZ2_bd : Bd 131080 aZ2 := (aZ1_bd.add (Bd.dl _ _ _ _ _ (by decide))).mono (by decide)
theorem aZ3_bd : Bd 196620 aZ3 := (aZ2_bd.add (Bd.dl _ _ _ _ _ (by decide))).mono (by decide)
theorem aZ4_bd : Bd 262160 aZ4 := (aZ3_bd.add (Bd.dl _ _ _ _ _ (by decide))).mono (by decide)
theorem aShow : showT aZ4 = [105, 110, 32, 52, 48, 32, 102, 105, 110, 101, 61, 49, 32, 116, 116, 108, 61, 50, 10, 111, 117, 116, 32, 50, 32, 49, 32, 51, 10] := by decide +kernel
theorem aWhat : atZ aZ4 0 4 2 = 2 := by decide +kernel
theorem aWhy : atZ aZ4 4 13 0 = 1 := by decide +kernel
theorem aIn : aZ4 17 = 40 := by decide +kernel
theorem aOut : atZ aZ4 18 64 2 = 1 ∧ atZ aZ4 82 64 2 = 3 := by decide +kernel
theorem aSum (g : Nat) : sumP (fun _ => aZ4) [some g, none, some g] 17 = 80 := by
  show addZ (addZ zeroZ aZ4) aZ4 17 = 80
  decide +kernel
theorem rd_three (w : World) (g : Nat) : Rd ptr1 1 (w.alloc (.cells #[.pointer (some ⟨g, 0, none⟩), .pointer none, .pointer (some ⟨g, 0, none⟩)] 25)) (some ⟨w.heap.size, 0, none⟩) 3 [some g, none, some g] := by
  refine ⟨rfl, fun i x hx => ⟨w.heap.size, 0, rfl, fun j u hu => ?_⟩⟩
  have hj : j = 0 := by
    have := (List.getElem?_eq_some_iff.1 hu).1
    simp [ptr1] at this
    omega
  subst hj
  rw [cell_of_row _ _ _ _ _ (0, 0) (heap_alloc_new _ _)]
  rcases i with _ | _ | _ | i
  · simp at hx; subst hx; simp [ptr1] at hu; subst hu; rfl
  · simp at hx; subst hx; simp [ptr1] at hu; subst hu; rfl
  · simp at hx; subst hx; simp [ptr1] at hu; subst hu; rfl
  · simp at hx

set_option maxRecDepth 100000 in
set_option maxHeartbeats 4000000 in
theorem awake_any (w : World) (ht : Tab w) (hn : Names w) : Calls Tryd.prog 5 #[] w fun e w' => e = .returned (.bool true) ∧ Below w.heap.size w w' := by
  have HTAB := Lib.hid ht
  have HNM := Lib.hid hn
  clear ht hn
  go_enter Tryd.func5, Tryd.ntmps5
  go_wp2_with fail
  refine (new_any w).mono ?_
  rintro e w1 ⟨rfl, ht1, hb1⟩
  have HT1 := Lib.hid ht1
  have HB1 := Lib.hid hb1
  have hl1 := ht1.lt
  clear ht1 hb1
  have kc := fun (w : World) (C : Array Value) (n c : Nat) => Lib.run_convert_bytes_const (P := Tryd.prog) w 33 5 C n c Tryd.underlying33 Tryd.underlying5
  go_wp2_with fail
  have hb2 : ∀ o, Below w1.heap.size w1 (w1.alloc o) := fun o => by go_grown
  have HO := Lib.hid hb2
  clear hb2 kc
  refine (add_any (HT1.out.below (HO.out _)) (Bd.zero.mono (by decide)) 0 0 2 false _ 3 3 (by decide) 10).mono ?_
  rintro e w3 ⟨rfl, ht3, hg3⟩
  have HB2 := Lib.hid (HB1.out.trans ((HO.out (.cells #[.int .u8 97, .int .u8 98, .int .u8 99] 5 (3, 4))).mono HB1.out.size))
  have HT3 := Lib.hid (show TlAt w3 w.heap.size 52 aZ1 from ht3)
  have HB3 := Lib.hid (HB2.out.grown hg3 HB2.out.size (fun x e => by cases e; exact Nat.le_refl _))
  clear ht3 hg3 HT1 HB1 HB2 HO hl1
  go_wp2_with fail
  refine (add_any HT3.out (aZ1_bd.mono (by decide)) 2 10 0 false _ 0 0 (by decide) 10).mono ?_
  rintro e w4 ⟨rfl, ht4, hg4⟩
  have HT4 := Lib.hid (show TlAt w4 w.heap.size 52 aZ2 from ht4)
  have HB4 := Lib.hid (HB3.out.grown hg4 HB3.out.size (fun x e => by cases e; exact Nat.le_refl _))
  clear ht4 hg4 HT3 HB3
  go_wp2_with fail
  refine (add_any HT4.out (aZ2_bd.mono (by decide)) 2 10 0 false _ 0 0 (by decide) 20).mono ?_
  rintro e w5 ⟨rfl, ht5, hg5⟩
  have HT5 := Lib.hid (show TlAt w5 w.heap.size 52 aZ3 from ht5)
  have HB5 := Lib.hid (HB4.out.grown hg5 HB4.out.size (fun x e => by cases e; exact Nat.le_refl _))
  clear ht5 hg5 HT4 HB4
  go_wp2_with fail
  refine (add_any HT5.out (aZ3_bd.mono (by decide)) 9 0 0 false _ 0 0 (by decide) 20).mono ?_
  rintro e w6 ⟨rfl, ht6, hg6⟩
  have HT6 := Lib.hid (show TlAt w6 w.heap.size 52 aZ4 from ht6)
  have HB6 := Lib.hid (HB5.out.grown hg6 HB5.out.size (fun x e => by cases e; exact Nat.le_refl _))
  clear ht6 hg6 HT5 HB5
  go_wp2_with fail
  refine (out_q HT6.out 2 1 3 aOut.1 aOut.2).mono ?_
  rintro e w7 ⟨rfl, nd, rfl⟩
  have HT7 := Lib.hid (HT6.out.drewN nd)
  have HB7 := Lib.hid (below_drewN HB6.out nd)
  clear HT6 HB6
  generalize w6.drewN nd = w7 at HT7 HB7 ⊢
  go_wp2_with fail
  have hsh := show_any HT7.out (aZ4_bd.mono (by decide)) (HTAB.out.below HB7.out) (HNM.out.below HB7.out)
  rw [aShow] at hsh
  refine hsh.mono ?_
  rintro e w8 ⟨rfl, hb8⟩
  have HT8 := Lib.hid (HT7.out.below hb8)
  have HB8 := Lib.hid (HB7.out.trans (hb8.mono HB7.out.size))
  clear hsh hb8 HT7 HB7
  unfold txt
  go_wp2_with fail
  refine (what_q HT8.out 2 2 aWhat).mono ?_
  rintro e w9 ⟨rfl, rfl⟩
  go_wp2_with fail
  refine (why_q HT8.out 0 1 aWhy).mono ?_
  rintro e w9 ⟨rfl, rfl⟩
  go_wp2_with fail
  have hin := in_any HT8.out
  rw [aIn] at hin
  refine hin.mono ?_
  rintro e w9 ⟨rfl, rfl⟩
  clear hin
  go_wp2_with fail
  have hb9 : ∀ o, Below w8.heap.size w8 (w8.alloc o) := fun o => by go_grown
  have HO := Lib.hid hb9
  clear hb9
  have hb10 := Lib.hid (HB8.out.trans ((HO.out (.cells #[.pointer (some ⟨w.heap.size, 0, none⟩), .pointer none, .pointer (some ⟨w.heap.size, 0, none⟩)] 25)).mono HB8.out.size))
  refine (sum_any (ps := [some w.heap.size, none, some w.heap.size]) (F := fun _ => aZ4) (rd_three w8 w.heap.size) (by decide) (fun b hb => by
    have hb' : b = w.heap.size := by simpa using hb
    subst hb'
    exact ⟨HT8.out.below (HO.out _), aZ4_bd.mono (by decide)⟩)).mono ?_
  rintro e w9 ⟨rfl, ht9, hb9⟩
  have HT9 := Lib.hid ht9
  have HB9 := Lib.hid (hb10.out.trans (hb9.mono hb10.out.size))
  clear ht9 hb9 hb10 HO
  go_wp2_with fail
  have hin := in_any HT9.out
  rw [aSum] at hin
  have HIN := Lib.hid hin
  clear hin
  first | refine (HIN.out).mono ?_ | (simp only [World.size_alloc] at HIN; refine (HIN.out).mono ?_)
  rintro e w10 ⟨rfl, rfl⟩
  go_wp2
  go_ret
  exact ⟨rfl, HB9.out⟩

end Go.Proofs.YtpkfmikpgfgbgaaDoor
