-- Written by wip/tools/pr.py of this session over the kit's print (widened); the words are the kit's print's own. Not trusted: Lean checks it.
import Derived.Test.YtiaodapgankjnaaQx0
namespace Go.Proofs.Ytiaodapgankjnaa.Q
open Go.RowKit Go.Proofs.YtiaodapgankjnaaW.PrintWords Go.Proofs.YtiaodapgankjnaaW.PrintLast Go.Proofs.YtiaodapgankjnaaW.PrintMore
attribute [local go_sem] max2_int min2_int max_two min_two max_three min_three max_four min_four   -- for this text's walks alone
set_option linter.unusedVariables false
set_option linter.unusedSimpArgs false

attribute [local go_sem high] eqA50
/-! ### trie_Trie_Same: function 17 -/
mutual
def trie_Trie_Same.j0 : Nat → List (S57) → List (S57) → Bool → Option (Bool)
 | 0, _, _, _ => none
 | k + 1, x0, x1, x32 => if x32 = true then (some false) else (if 0 < (x0.length : Int) then (trie_Trie_Same.l0 k x0 x1 (((rd_T57 x0 0).f1).length : Int) 0) else (none))
def trie_Trie_Same.l0 : Nat → List (S57) → List (S57) → Int → Int → Option (Bool)
 | 0, _, _, _, _ => none
 | k + 1, x0, x1, x37, x38 => if x38 < x37 then (if 0 < (x0.length : Int) then (if 0 ≤ x38 then (if x38 < (((rd_T57 x0 0).f1).length : Int) then (if 0 < (x1.length : Int) then (if x38 < (((rd_T57 x1 0).f1).length : Int) then (if (rd ((rd_T57 x0 0).f1) x38) = (rd ((rd_T57 x1 0).f1) x38) then (trie_Trie_Same.l0 k x0 x1 x37 (wrap64 (x38 + 1))) else (some false)) else (none)) else (none)) else (none)) else (none)) else (none)) else (if 0 < (x0.length : Int) then (trie_Trie_Same.l1 k x0 x1 (((rd_T57 x0 0).f2).length : Int) 0) else (none))
def trie_Trie_Same.l1 : Nat → List (S57) → List (S57) → Int → Int → Option (Bool)
 | 0, _, _, _, _ => none
 | k + 1, x0, x1, x61, x62 => if x62 < x61 then (if 0 < (x0.length : Int) then (if 0 ≤ x62 then (if x62 < (((rd_T57 x0 0).f2).length : Int) then (if 0 < (x1.length : Int) then (if x62 < (((rd_T57 x1 0).f2).length : Int) then (if ((arrEq 64 (rd_L4 ((rd_T57 x0 0).f2) x62) (rd_L4 ((rd_T57 x1 0).f2) x62)) = true) then (trie_Trie_Same.l1 k x0 x1 x61 (wrap64 (x62 + 1))) else (some false)) else (none)) else (none)) else (none)) else (none)) else (none)) else (some true)
end
def trie_Trie_Same.f (k : Nat) (l0 : List (S57)) (l1 : List (S57)) : Option (Bool) := if (l1.isEmpty) = true then (trie_Trie_Same.j0 k l0 l1 true) else (if 0 < (l0.length : Int) then (if 0 < (l1.length : Int) then (if ((rd_T57 l0 0).f0) = ((rd_T57 l1 0).f0) then (trie_Trie_Same.j0 k l0 l1 ((((rd_T57 l0 0).f2).length : Int) != (((rd_T57 l1 0).f2).length : Int))) else (trie_Trie_Same.j0 k l0 l1 true)) else (none)) else (none))
theorem trie_Trie_Same.mono_l : ∀ k, (∀ y0 y1 y2, LeO (trie_Trie_Same.j0 k y0 y1 y2) (trie_Trie_Same.j0 (k + 1) y0 y1 y2)) ∧ (∀ y0 y1 y2 y3, LeO (trie_Trie_Same.l0 k y0 y1 y2 y3) (trie_Trie_Same.l0 (k + 1) y0 y1 y2 y3)) ∧ (∀ y0 y1 y2 y3, LeO (trie_Trie_Same.l1 k y0 y1 y2 y3) (trie_Trie_Same.l1 (k + 1) y0 y1 y2 y3))
 | 0 => ⟨fun _ _ _ r h => by simp [trie_Trie_Same.j0] at h, fun _ _ _ _ r h => by simp [trie_Trie_Same.l0] at h, fun _ _ _ _ r h => by simp [trie_Trie_Same.l1] at h⟩
 | k + 1 => by
  obtain ⟨ih0, ih1, ih2⟩ := trie_Trie_Same.mono_l k
  refine ⟨?_, ?_, ?_⟩
  ·intro y0 y1 y2
   unfold trie_Trie_Same.j0
   repeat' first
   | (with_reducible exact ih0 _ _ _)
   | (with_reducible exact ih1 _ _ _ _)
   | (with_reducible exact ih2 _ _ _ _)
   | (with_reducible exact LeO.refl _)
   | (with_reducible exact LeO.none _)
   | (with_reducible refine LeO.ite ?_ ?_)
   | (with_reducible refine LeO.bind ?_ (fun _ => ?_))
   | exact ih0 _ _ _
   | exact ih1 _ _ _ _
   | exact ih2 _ _ _ _
   | exact LeO.none _
   | refine LeO.ite ?_ ?_
   | refine LeO.bind ?_ (fun _ => ?_)
  ·intro y0 y1 y2 y3
   unfold trie_Trie_Same.l0
   repeat' first
   | (with_reducible exact ih0 _ _ _)
   | (with_reducible exact ih1 _ _ _ _)
   | (with_reducible exact ih2 _ _ _ _)
   | (with_reducible exact LeO.refl _)
   | (with_reducible exact LeO.none _)
   | (with_reducible refine LeO.ite ?_ ?_)
   | (with_reducible refine LeO.bind ?_ (fun _ => ?_))
   | exact ih0 _ _ _
   | exact ih1 _ _ _ _
   | exact ih2 _ _ _ _
   | exact LeO.none _
   | refine LeO.ite ?_ ?_
   | refine LeO.bind ?_ (fun _ => ?_)
  ·intro y0 y1 y2 y3
   unfold trie_Trie_Same.l1
   repeat' first
   | (with_reducible exact ih0 _ _ _)
   | (with_reducible exact ih1 _ _ _ _)
   | (with_reducible exact ih2 _ _ _ _)
   | (with_reducible exact LeO.refl _)
   | (with_reducible exact LeO.none _)
   | (with_reducible refine LeO.ite ?_ ?_)
   | (with_reducible refine LeO.bind ?_ (fun _ => ?_))
   | exact ih0 _ _ _
   | exact ih1 _ _ _ _
   | exact ih2 _ _ _ _
   | exact LeO.none _
   | refine LeO.ite ?_ ?_
   | refine LeO.bind ?_ (fun _ => ?_)
theorem trie_Trie_Same.mono : ∀ a0 a1 k, LeO (trie_Trie_Same.f k a0 a1) (trie_Trie_Same.f (k + 1) a0 a1) := by
 intro a0 a1 k
 obtain ⟨ih0, ih1, ih2⟩ := trie_Trie_Same.mono_l k
 unfold trie_Trie_Same.f
 repeat' first
   | (with_reducible exact ih0 _ _ _)
   | (with_reducible exact ih1 _ _ _ _)
   | (with_reducible exact ih2 _ _ _ _)
   | (with_reducible exact LeO.refl _)
   | (with_reducible exact LeO.none _)
   | (with_reducible refine LeO.ite ?_ ?_)
   | (with_reducible refine LeO.bind ?_ (fun _ => ?_))
   | exact ih0 _ _ _
   | exact ih1 _ _ _ _
   | exact ih2 _ _ _ _
   | exact LeO.none _
   | refine LeO.ite ?_ ?_
   | refine LeO.bind ?_ (fun _ => ?_)
set_option maxHeartbeats 8000000 in
set_option maxRecDepth 100000 in
theorem trie_Trie_Same.calls (k : Nat) (A0 : Option Addr) (l0 : List (S57)) (A1 : Option Addr) (l1 : List (S57)) (r : Bool) (w : World) (hr0 : Kd.PC k57 w A0 l0.length l0) (hr1 : Kd.PC k57 w A1 l1.length l1) (h : trie_Trie_Same.f k l0 l1 = some r) :
  Calls Try.prog 17 #[.pointer A0, .pointer A1] w fun e w' => e = .returned (.bool r) ∧ Drawn0 w w' := by
 have HR0 := Aside0.mk hr0
 clear hr0
 have HR1 := Aside0.mk hr1
 clear hr1
 have H : (if (l1.isEmpty) = true then (trie_Trie_Same.j0 k l0 l1 true) else (if 0 < (l0.length : Int) then (if 0 < (l1.length : Int) then (if ((rd_T57 l0 0).f0) = ((rd_T57 l1 0).f0) then (trie_Trie_Same.j0 k l0 l1 ((((rd_T57 l0 0).f2).length : Int) != (((rd_T57 l1 0).f2).length : Int))) else (trie_Trie_Same.j0 k l0 l1 true)) else (none)) else (none))) = some r := h
 clear h
 have HC3 := Aside0.mk H
 clear H
 go_enter Try.func17, Try.ntmps17
 go_upto_region 1 with (fail)
 repeat (go_quiet (fail); go_upto_region 1 with (fail))
 go_cut [32] (fun v32 wc => ∃ (kq : Nat) (x32_2 : Bool), v32 = .bool x32_2 ∧ Aside0 (trie_Trie_Same.j0 kq l0 l1 x32_2 = some r) ∧ Aside0 (kq ≤ k) ∧ Drawn0 w wc)
 case first =>
  have H := HC3.out
  clear HC3
  by_cases c4 : (l1.isEmpty) = true
  ·rw [if_pos c4] at H
   have c4b0 : (l1.isEmpty) = true := c4
   clear c4
   (first | rw [c4b0] | (simp only [i64_w, i32_w]; rw [c4b0]) | skip)
   have H' := Aside0.mk H
   clear H
   have hz5 := Kd.PC_isNone (HR1.out)
   go_wp2
   repeat (go_quiet (fail); try go_wp2)
   go_meet
   case rel => exact ⟨_, (true), (by first | rfl | (simp; done) | (simp [*]; done)), H', ⟨by first | omega | exact Nat.le_refl _⟩, by repeat (first | exact Drawn0.refl _ | apply Drawn0.step)⟩
  ·rw [if_neg c4] at H
   have c4b0 : (l1.isEmpty) = false := by simpa using c4
   clear c4
   (first | rw [c4b0] | (simp only [i64_w, i32_w]; rw [c4b0]) | skip)
   by_cases c6 : 0 < (l0.length : Int)
   ·rw [if_pos c6] at H
    have c6b0 : decide (0 < (l0.length : Int)) = true := decide_eq_true c6
    have c6b1 : decide (0 < l0.length) = true := decide_eq_true (by omega)
    clear c6
    by_cases c7 : 0 < (l1.length : Int)
    ·rw [if_pos c7] at H
     have c7b0 : decide (0 < (l1.length : Int)) = true := decide_eq_true c7
     have c7b1 : decide (0 < l1.length) = true := decide_eq_true (by omega)
     clear c7
     by_cases c8 : ((rd_T57 l0 0).f0) = ((rd_T57 l1 0).f0)
     ·rw [if_pos c8] at H
      have c8b0 : (((rd_T57 l0 0).f0) == ((rd_T57 l1 0).f0)) = true := beq_iff_eq.mpr c8
      have c8b1 : (((rd_T57 l0 0).f0) != ((rd_T57 l1 0).f0)) = false := bne_eq_false_iff_eq.mpr c8
      clear c8
      have H' := Aside0.mk H
      clear H
      have hz9 := Kd.PC_isNone (HR1.out)
      have p165 : 0 ≤ (0 : Int) := (by omega)
      have q165 : 0 < (l0.length : Int) := of_decide_eq_true (by first | (with_reducible assumption) | assumption)
      obtain ⟨ad165, A165_1, c165_1, A165_2, c165_2, e165, hx165_0, hx165_1, hx165_2, hl165_1, hi165_1, hl165_2, hi165_2⟩ := at_T57 (Kd.PC_C HR0.out) 0 p165 q165
      cases e165
      have qi165 : (0 < l0.length) = True := eq_true (by omega)
      (try rw [show ((0 : Int)).toNat = 0 from rfl] at hx165_0)
      (try rw [show 0 * 3 = 0 from rfl] at hx165_0)
      (try rw [Addr.add_zero'] at hx165_0)
      (try rw [show ((0 : Int)).toNat = 0 from rfl] at hx165_1)
      (try rw [show 0 * 3 = 0 from rfl] at hx165_1)
      (try rw [Addr.add_zero'] at hx165_1)
      (try rw [show ((0 : Int)).toNat = 0 from rfl] at hx165_2)
      (try rw [show 0 * 3 = 0 from rfl] at hx165_2)
      (try rw [Addr.add_zero'] at hx165_2)
      have HR165_1 := Aside0.mk hi165_1
      have HC165_1 := Aside0.mk hl165_1
      clear hi165_1 hl165_1
      have HR165_2 := Aside0.mk hi165_2
      have HC165_2 := Aside0.mk hl165_2
      clear hi165_2 hl165_2
      replace p165 := eq_true p165
      replace q165 := eq_true q165
      have p166 : 0 ≤ (0 : Int) := (by omega)
      have q166 : 0 < (l1.length : Int) := of_decide_eq_true (by first | (with_reducible assumption) | assumption)
      obtain ⟨ad166, A166_1, c166_1, A166_2, c166_2, e166, hx166_0, hx166_1, hx166_2, hl166_1, hi166_1, hl166_2, hi166_2⟩ := at_T57 (Kd.PC_C HR1.out) 0 p166 q166
      cases e166
      have qi166 : (0 < l1.length) = True := eq_true (by omega)
      (try rw [show ((0 : Int)).toNat = 0 from rfl] at hx166_0)
      (try rw [show 0 * 3 = 0 from rfl] at hx166_0)
      (try rw [Addr.add_zero'] at hx166_0)
      (try rw [show ((0 : Int)).toNat = 0 from rfl] at hx166_1)
      (try rw [show 0 * 3 = 0 from rfl] at hx166_1)
      (try rw [Addr.add_zero'] at hx166_1)
      (try rw [show ((0 : Int)).toNat = 0 from rfl] at hx166_2)
      (try rw [show 0 * 3 = 0 from rfl] at hx166_2)
      (try rw [Addr.add_zero'] at hx166_2)
      have HR166_1 := Aside0.mk hi166_1
      have HC166_1 := Aside0.mk hl166_1
      clear hi166_1 hl166_1
      have HR166_2 := Aside0.mk hi166_2
      have HC166_2 := Aside0.mk hl166_2
      clear hi166_2 hl166_2
      replace p166 := eq_true p166
      replace q166 := eq_true q166
      have p167 : 0 ≤ (0 : Int) := (by omega)
      have q167 : 0 < (l0.length : Int) := of_decide_eq_true (by first | (with_reducible assumption) | assumption)
      obtain ⟨ad167, A167_1, c167_1, A167_2, c167_2, e167, hx167_0, hx167_1, hx167_2, hl167_1, hi167_1, hl167_2, hi167_2⟩ := at_T57 (Kd.PC_C HR0.out) 0 p167 q167
      obtain rfl : ad165 = ad167 := (by injection e167)
      have qi167 : (0 < l0.length) = True := eq_true (by omega)
      (try rw [show ((0 : Int)).toNat = 0 from rfl] at hx167_0)
      (try rw [show 0 * 3 = 0 from rfl] at hx167_0)
      (try rw [Addr.add_zero'] at hx167_0)
      (try rw [show ((0 : Int)).toNat = 0 from rfl] at hx167_1)
      (try rw [show 0 * 3 = 0 from rfl] at hx167_1)
      (try rw [Addr.add_zero'] at hx167_1)
      (try rw [show ((0 : Int)).toNat = 0 from rfl] at hx167_2)
      (try rw [show 0 * 3 = 0 from rfl] at hx167_2)
      (try rw [Addr.add_zero'] at hx167_2)
      have HR167_1 := Aside0.mk hi167_1
      have HC167_1 := Aside0.mk hl167_1
      clear hi167_1 hl167_1
      have HR167_2 := Aside0.mk hi167_2
      have HC167_2 := Aside0.mk hl167_2
      clear hi167_2 hl167_2
      replace p167 := eq_true p167
      replace q167 := eq_true q167
      have ea_ := Option.some.inj (hx165_1.symm.trans hx167_1)
      injection ea_ with ea_ en_ ec_
      subst ea_
      subst ec_
      clear en_
      have ea_ := Option.some.inj (hx165_2.symm.trans hx167_2)
      injection ea_ with ea_ en_ ec_
      subst ea_
      subst ec_
      clear en_
      have p168 : 0 ≤ (0 : Int) := (by omega)
      have q168 : 0 < (l1.length : Int) := of_decide_eq_true (by first | (with_reducible assumption) | assumption)
      obtain ⟨ad168, A168_1, c168_1, A168_2, c168_2, e168, hx168_0, hx168_1, hx168_2, hl168_1, hi168_1, hl168_2, hi168_2⟩ := at_T57 (Kd.PC_C HR1.out) 0 p168 q168
      obtain rfl : ad166 = ad168 := (by injection e168)
      have qi168 : (0 < l1.length) = True := eq_true (by omega)
      (try rw [show ((0 : Int)).toNat = 0 from rfl] at hx168_0)
      (try rw [show 0 * 3 = 0 from rfl] at hx168_0)
      (try rw [Addr.add_zero'] at hx168_0)
      (try rw [show ((0 : Int)).toNat = 0 from rfl] at hx168_1)
      (try rw [show 0 * 3 = 0 from rfl] at hx168_1)
      (try rw [Addr.add_zero'] at hx168_1)
      (try rw [show ((0 : Int)).toNat = 0 from rfl] at hx168_2)
      (try rw [show 0 * 3 = 0 from rfl] at hx168_2)
      (try rw [Addr.add_zero'] at hx168_2)
      have HR168_1 := Aside0.mk hi168_1
      have HC168_1 := Aside0.mk hl168_1
      clear hi168_1 hl168_1
      have HR168_2 := Aside0.mk hi168_2
      have HC168_2 := Aside0.mk hl168_2
      clear hi168_2 hl168_2
      replace p168 := eq_true p168
      replace q168 := eq_true q168
      have ea_ := Option.some.inj (hx166_1.symm.trans hx168_1)
      injection ea_ with ea_ en_ ec_
      subst ea_
      subst ec_
      clear en_
      have ea_ := Option.some.inj (hx166_2.symm.trans hx168_2)
      injection ea_ with ea_ en_ ec_
      subst ea_
      subst ec_
      clear en_
      go_wp2
      repeat (go_quiet (fail); try go_wp2)
      go_meet
      case rel => exact ⟨_, (((((rd_T57 l0 0).f2).length : Int) != (((rd_T57 l1 0).f2).length : Int))), (by first | rfl | (simp; done) | (simp [*]; done)), H', ⟨by first | omega | exact Nat.le_refl _⟩, by repeat (first | exact Drawn0.refl _ | apply Drawn0.step)⟩
     ·rw [if_neg c8] at H
      have c8b0 : (((rd_T57 l0 0).f0) == ((rd_T57 l1 0).f0)) = false := beq_eq_false_iff_ne.mpr c8
      have c8b1 : (((rd_T57 l0 0).f0) != ((rd_T57 l1 0).f0)) = true := bne_iff_ne.mpr c8
      have H' := Aside0.mk H
      clear H
      have hz10 := Kd.PC_isNone (HR1.out)
      have p165 : 0 ≤ (0 : Int) := (by omega)
      have q165 : 0 < (l0.length : Int) := of_decide_eq_true (by first | (with_reducible assumption) | assumption)
      obtain ⟨ad165, A165_1, c165_1, A165_2, c165_2, e165, hx165_0, hx165_1, hx165_2, hl165_1, hi165_1, hl165_2, hi165_2⟩ := at_T57 (Kd.PC_C HR0.out) 0 p165 q165
      cases e165
      have qi165 : (0 < l0.length) = True := eq_true (by omega)
      (try rw [show ((0 : Int)).toNat = 0 from rfl] at hx165_0)
      (try rw [show 0 * 3 = 0 from rfl] at hx165_0)
      (try rw [Addr.add_zero'] at hx165_0)
      (try rw [show ((0 : Int)).toNat = 0 from rfl] at hx165_1)
      (try rw [show 0 * 3 = 0 from rfl] at hx165_1)
      (try rw [Addr.add_zero'] at hx165_1)
      (try rw [show ((0 : Int)).toNat = 0 from rfl] at hx165_2)
      (try rw [show 0 * 3 = 0 from rfl] at hx165_2)
      (try rw [Addr.add_zero'] at hx165_2)
      have HR165_1 := Aside0.mk hi165_1
      have HC165_1 := Aside0.mk hl165_1
      clear hi165_1 hl165_1
      have HR165_2 := Aside0.mk hi165_2
      have HC165_2 := Aside0.mk hl165_2
      clear hi165_2 hl165_2
      replace p165 := eq_true p165
      replace q165 := eq_true q165
      have p166 : 0 ≤ (0 : Int) := (by omega)
      have q166 : 0 < (l1.length : Int) := of_decide_eq_true (by first | (with_reducible assumption) | assumption)
      obtain ⟨ad166, A166_1, c166_1, A166_2, c166_2, e166, hx166_0, hx166_1, hx166_2, hl166_1, hi166_1, hl166_2, hi166_2⟩ := at_T57 (Kd.PC_C HR1.out) 0 p166 q166
      cases e166
      have qi166 : (0 < l1.length) = True := eq_true (by omega)
      (try rw [show ((0 : Int)).toNat = 0 from rfl] at hx166_0)
      (try rw [show 0 * 3 = 0 from rfl] at hx166_0)
      (try rw [Addr.add_zero'] at hx166_0)
      (try rw [show ((0 : Int)).toNat = 0 from rfl] at hx166_1)
      (try rw [show 0 * 3 = 0 from rfl] at hx166_1)
      (try rw [Addr.add_zero'] at hx166_1)
      (try rw [show ((0 : Int)).toNat = 0 from rfl] at hx166_2)
      (try rw [show 0 * 3 = 0 from rfl] at hx166_2)
      (try rw [Addr.add_zero'] at hx166_2)
      have HR166_1 := Aside0.mk hi166_1
      have HC166_1 := Aside0.mk hl166_1
      clear hi166_1 hl166_1
      have HR166_2 := Aside0.mk hi166_2
      have HC166_2 := Aside0.mk hl166_2
      clear hi166_2 hl166_2
      replace p166 := eq_true p166
      replace q166 := eq_true q166
      go_wp2
      repeat (go_quiet (fail); try go_wp2)
      go_meet
      case rel => exact ⟨_, (true), (by first | rfl | (simp; done) | (simp [*]; done)), H', ⟨by first | omega | exact Nat.le_refl _⟩, by repeat (first | exact Drawn0.refl _ | apply Drawn0.step)⟩
    ·rw [if_neg c7] at H
     exact absurd H (by simp)
   ·rw [if_neg c6] at H
    exact absurd H (by simp)
 case rest =>
  clear HC3
  (try clear c1); (try clear p1); (try clear q1); (try clear hx1); (try clear qi1); (try clear p2); (try clear c4); (try clear c4b0); (try clear c6); (try clear c6b0); (try clear c6b1); (try clear c7); (try clear c7b0); (try clear c7b1); (try clear c8); (try clear c8b0); (try clear c8b1); (try clear hx165_0); (try clear hx165_1); (try clear hx165_2); (try clear hx166_0); (try clear hx166_1); (try clear hx166_2); (try clear hx167_0); (try clear hx167_1); (try clear hx167_2); (try clear hx168_0); (try clear hx168_1); (try clear hx168_2); (try clear p165); (try clear p166); (try clear p167); (try clear p168); (try clear q165); (try clear q166); (try clear q167); (try clear q168)
  obtain ⟨kq, x32_2, rfl, HA, HJ2, ⟨mc2, rfl⟩⟩ := hcut
  cases kq with
  | zero => exact absurd HA.out (by simp [trie_Trie_Same.j0])
  | succ kj2 =>
   have H := HA.out
   clear HA
   simp only [trie_Trie_Same.j0] at H
   by_cases c11 : x32_2 = true
   ·subst c11
    have H1 : (some false) = some r := by rw [if_pos rfl] at H; exact H
    clear H
    have H := H1
    clear H1
    obtain rfl := Option.some.inj H
    go_wp2
    repeat (go_quiet (fail); try go_wp2)
    go_ret
    exact ⟨by first | rfl | (simp; done) | (simp [*]; done), by repeat (first | exact Drawn0.refl _ | apply Drawn0.step)⟩
   ·replace c11 := Bool.eq_false_iff.mpr c11
    subst c11
    have H1 : (if 0 < (l0.length : Int) then (trie_Trie_Same.l0 kj2 l0 l1 (((rd_T57 l0 0).f1).length : Int) 0) else (none)) = some r := by rw [if_neg (show ¬ (false = true) by decide)] at H; exact H
    clear H
    have H := H1
    clear H1
    by_cases c12 : 0 < (l0.length : Int)
    ·rw [if_pos c12] at H
     have c12b0 : decide (0 < (l0.length : Int)) = true := decide_eq_true c12
     have c12b1 : decide (0 < l0.length) = true := decide_eq_true (by omega)
     clear c12
     have H' := Aside0.mk H
     clear H
     have p169 : 0 ≤ (0 : Int) := (by omega)
     have q169 : 0 < (l0.length : Int) := of_decide_eq_true (by first | (with_reducible assumption) | assumption)
     obtain ⟨ad169, A169_1, c169_1, A169_2, c169_2, e169, hx169_0, hx169_1, hx169_2, hl169_1, hi169_1, hl169_2, hi169_2⟩ := at_T57 (Kd.PC_C HR0.out) 0 p169 q169
     cases e169
     have qi169 : (0 < l0.length) = True := eq_true (by omega)
     (try rw [show ((0 : Int)).toNat = 0 from rfl] at hx169_0)
     (try rw [show 0 * 3 = 0 from rfl] at hx169_0)
     (try rw [Addr.add_zero'] at hx169_0)
     (try rw [show ((0 : Int)).toNat = 0 from rfl] at hx169_1)
     (try rw [show 0 * 3 = 0 from rfl] at hx169_1)
     (try rw [Addr.add_zero'] at hx169_1)
     (try rw [show ((0 : Int)).toNat = 0 from rfl] at hx169_2)
     (try rw [show 0 * 3 = 0 from rfl] at hx169_2)
     (try rw [Addr.add_zero'] at hx169_2)
     have HR169_1 := Aside0.mk hi169_1
     have HC169_1 := Aside0.mk hl169_1
     clear hi169_1 hl169_1
     have HR169_2 := Aside0.mk hi169_2
     have HC169_2 := Aside0.mk hl169_2
     clear hi169_2 hl169_2
     replace p169 := eq_true p169
     replace q169 := eq_true q169
     go_wp2
     repeat (go_quiet (fail); try go_wp2)
     go_loopg [38] kj2 (fun kq v38 w' => ∃ (x38_2 : Int), v38 = .int .i64 x38_2 ∧ Aside0 (trie_Trie_Same.l0 kq l0 l1 (((rd_T57 l0 0).f1).length : Int) x38_2 = some r) ∧ Aside0 (kq ≤ kj2) ∧ Drawn0 w w')
     case atStart => exact ⟨(0), (by first | rfl | (simp; done) | (simp [*]; done)), H', ⟨Nat.le_refl _⟩, by repeat (first | exact Drawn0.refl _ | apply Drawn0.step)⟩
     case round =>
      clear H'
      (try clear c1); (try clear p1); (try clear q1); (try clear hx1); (try clear qi1); (try clear c2); (try clear p2); (try clear c4); (try clear c4b0); (try clear c6); (try clear c6b0); (try clear c6b1); (try clear c7); (try clear c7b0); (try clear c7b1); (try clear c8); (try clear c8b0); (try clear c8b1); (try clear c11); (try clear c12); (try clear c12b0); (try clear c12b1); (try clear hx165_0); (try clear hx165_1); (try clear hx165_2); (try clear hx166_0); (try clear hx166_1); (try clear hx166_2); (try clear hx167_0); (try clear hx167_1); (try clear hx167_2); (try clear hx168_0); (try clear hx168_1); (try clear hx168_2); (try clear hx169_0); (try clear hx169_1); (try clear hx169_2); (try clear p1); (try clear p165); (try clear p166); (try clear p167); (try clear p168); (try clear p169); (try clear p2); (try clear q1); (try clear q165); (try clear q166); (try clear q167); (try clear q168); (try clear q169)
      obtain ⟨x38_2, rfl, HA, HK2, ⟨m2, rfl⟩⟩ := hrel
      cases gk with
      | zero => exact absurd HA.out (by simp [trie_Trie_Same.l0])
      | succ k2 =>
       have H := HA.out
       clear HA
       simp only [trie_Trie_Same.l0] at H
       by_cases c13 : x38_2 < (((rd_T57 l0 0).f1).length : Int)
       ·rw [if_pos c13] at H
        have c13b0 : decide (x38_2 < (((rd_T57 l0 0).f1).length : Int)) = true := decide_eq_true c13
        clear c13
        by_cases c14 : 0 < (l0.length : Int)
        ·rw [if_pos c14] at H
         have c14b0 : decide (0 < (l0.length : Int)) = true := decide_eq_true c14
         have c14b1 : decide (0 < l0.length) = true := decide_eq_true (by omega)
         clear c14
         by_cases c15 : 0 ≤ x38_2
         ·rw [if_pos c15] at H
          have c15b0 : decide (0 ≤ x38_2) = true := decide_eq_true c15
          clear c15
          by_cases c16 : x38_2 < (((rd_T57 l0 0).f1).length : Int)
          ·rw [if_pos c16] at H
           have c16b0 : decide (x38_2 < (((rd_T57 l0 0).f1).length : Int)) = true := decide_eq_true c16
           clear c16
           by_cases c17 : 0 < (l1.length : Int)
           ·rw [if_pos c17] at H
            have c17b0 : decide (0 < (l1.length : Int)) = true := decide_eq_true c17
            have c17b1 : decide (0 < l1.length) = true := decide_eq_true (by omega)
            clear c17
            by_cases c18 : x38_2 < (((rd_T57 l1 0).f1).length : Int)
            ·rw [if_pos c18] at H
             have c18b0 : decide (x38_2 < (((rd_T57 l1 0).f1).length : Int)) = true := decide_eq_true c18
             clear c18
             by_cases c19 : (rd ((rd_T57 l0 0).f1) x38_2) = (rd ((rd_T57 l1 0).f1) x38_2)
             ·rw [if_pos c19] at H
              have c19b0 : ((rd ((rd_T57 l0 0).f1) x38_2) == (rd ((rd_T57 l1 0).f1) x38_2)) = true := beq_iff_eq.mpr c19
              have c19b1 : ((rd ((rd_T57 l0 0).f1) x38_2) != (rd ((rd_T57 l1 0).f1) x38_2)) = false := bne_eq_false_iff_eq.mpr c19
              clear c19
              have H' := Aside0.mk H
              clear H
              have p170 : 0 ≤ (0 : Int) := (by omega)
              have q170 : 0 < (l0.length : Int) := of_decide_eq_true (by first | (with_reducible assumption) | assumption)
              obtain ⟨ad170, A170_1, c170_1, A170_2, c170_2, e170, hx170_0, hx170_1, hx170_2, hl170_1, hi170_1, hl170_2, hi170_2⟩ := at_T57 (Kd.PC_C HR0.out) 0 p170 q170
              obtain rfl : ad169 = ad170 := (by injection e170)
              have qi170 : (0 < l0.length) = True := eq_true (by omega)
              (try rw [show ((0 : Int)).toNat = 0 from rfl] at hx170_0)
              (try rw [show 0 * 3 = 0 from rfl] at hx170_0)
              (try rw [Addr.add_zero'] at hx170_0)
              (try rw [show ((0 : Int)).toNat = 0 from rfl] at hx170_1)
              (try rw [show 0 * 3 = 0 from rfl] at hx170_1)
              (try rw [Addr.add_zero'] at hx170_1)
              (try rw [show ((0 : Int)).toNat = 0 from rfl] at hx170_2)
              (try rw [show 0 * 3 = 0 from rfl] at hx170_2)
              (try rw [Addr.add_zero'] at hx170_2)
              have HR170_1 := Aside0.mk hi170_1
              have HC170_1 := Aside0.mk hl170_1
              clear hi170_1 hl170_1
              have HR170_2 := Aside0.mk hi170_2
              have HC170_2 := Aside0.mk hl170_2
              clear hi170_2 hl170_2
              replace p170 := eq_true p170
              replace q170 := eq_true q170
              have p171 : 0 ≤ (x38_2 : Int) := of_decide_eq_true (by first | (with_reducible assumption) | assumption)
              have q171 : x38_2 < (((rd_T57 l0 0).f1).length : Int) := of_decide_eq_true (by first | (with_reducible assumption) | assumption)
              obtain ⟨ad171, e171, hx171_0⟩ := Kd.at_int HR170_1.out x38_2 p171 q171
              cases e171
              replace p171 := eq_true p171
              replace q171 := eq_true q171
              have p172 : 0 ≤ (0 : Int) := (by omega)
              have q172 : 0 < (l1.length : Int) := of_decide_eq_true (by first | (with_reducible assumption) | assumption)
              obtain ⟨ad172, A172_1, c172_1, A172_2, c172_2, e172, hx172_0, hx172_1, hx172_2, hl172_1, hi172_1, hl172_2, hi172_2⟩ := at_T57 (Kd.PC_C HR1.out) 0 p172 q172
              cases e172
              have qi172 : (0 < l1.length) = True := eq_true (by omega)
              (try rw [show ((0 : Int)).toNat = 0 from rfl] at hx172_0)
              (try rw [show 0 * 3 = 0 from rfl] at hx172_0)
              (try rw [Addr.add_zero'] at hx172_0)
              (try rw [show ((0 : Int)).toNat = 0 from rfl] at hx172_1)
              (try rw [show 0 * 3 = 0 from rfl] at hx172_1)
              (try rw [Addr.add_zero'] at hx172_1)
              (try rw [show ((0 : Int)).toNat = 0 from rfl] at hx172_2)
              (try rw [show 0 * 3 = 0 from rfl] at hx172_2)
              (try rw [Addr.add_zero'] at hx172_2)
              have HR172_1 := Aside0.mk hi172_1
              have HC172_1 := Aside0.mk hl172_1
              clear hi172_1 hl172_1
              have HR172_2 := Aside0.mk hi172_2
              have HC172_2 := Aside0.mk hl172_2
              clear hi172_2 hl172_2
              replace p172 := eq_true p172
              replace q172 := eq_true q172
              have p173 : 0 ≤ (x38_2 : Int) := of_decide_eq_true (by first | (with_reducible assumption) | assumption)
              have q173 : x38_2 < (((rd_T57 l1 0).f1).length : Int) := of_decide_eq_true (by first | (with_reducible assumption) | assumption)
              obtain ⟨ad173, e173, hx173_0⟩ := Kd.at_int HR172_1.out x38_2 p173 q173
              cases e173
              replace p173 := eq_true p173
              replace q173 := eq_true q173
              go_wp2
              repeat (go_quiet (fail); try go_wp2)
              go_roundg k2
              case measure => have := HJ2.out; have := HK2.out; omega
              case rel => exact ⟨(wrap64 (x38_2 + 1)), (by first | rfl | (simp; done) | (simp [*]; done)), H', ⟨by have := HJ2.out; have := HK2.out; omega⟩, by repeat (first | exact Drawn0.refl _ | apply Drawn0.step)⟩
             ·rw [if_neg c19] at H
              have c19b0 : ((rd ((rd_T57 l0 0).f1) x38_2) == (rd ((rd_T57 l1 0).f1) x38_2)) = false := beq_eq_false_iff_ne.mpr c19
              have c19b1 : ((rd ((rd_T57 l0 0).f1) x38_2) != (rd ((rd_T57 l1 0).f1) x38_2)) = true := bne_iff_ne.mpr c19
              obtain rfl := Option.some.inj H
              have p170 : 0 ≤ (0 : Int) := (by omega)
              have q170 : 0 < (l0.length : Int) := of_decide_eq_true (by first | (with_reducible assumption) | assumption)
              obtain ⟨ad170, A170_1, c170_1, A170_2, c170_2, e170, hx170_0, hx170_1, hx170_2, hl170_1, hi170_1, hl170_2, hi170_2⟩ := at_T57 (Kd.PC_C HR0.out) 0 p170 q170
              obtain rfl : ad169 = ad170 := (by injection e170)
              have qi170 : (0 < l0.length) = True := eq_true (by omega)
              (try rw [show ((0 : Int)).toNat = 0 from rfl] at hx170_0)
              (try rw [show 0 * 3 = 0 from rfl] at hx170_0)
              (try rw [Addr.add_zero'] at hx170_0)
              (try rw [show ((0 : Int)).toNat = 0 from rfl] at hx170_1)
              (try rw [show 0 * 3 = 0 from rfl] at hx170_1)
              (try rw [Addr.add_zero'] at hx170_1)
              (try rw [show ((0 : Int)).toNat = 0 from rfl] at hx170_2)
              (try rw [show 0 * 3 = 0 from rfl] at hx170_2)
              (try rw [Addr.add_zero'] at hx170_2)
              have HR170_1 := Aside0.mk hi170_1
              have HC170_1 := Aside0.mk hl170_1
              clear hi170_1 hl170_1
              have HR170_2 := Aside0.mk hi170_2
              have HC170_2 := Aside0.mk hl170_2
              clear hi170_2 hl170_2
              replace p170 := eq_true p170
              replace q170 := eq_true q170
              have p171 : 0 ≤ (x38_2 : Int) := of_decide_eq_true (by first | (with_reducible assumption) | assumption)
              have q171 : x38_2 < (((rd_T57 l0 0).f1).length : Int) := of_decide_eq_true (by first | (with_reducible assumption) | assumption)
              obtain ⟨ad171, e171, hx171_0⟩ := Kd.at_int HR170_1.out x38_2 p171 q171
              cases e171
              replace p171 := eq_true p171
              replace q171 := eq_true q171
              have p172 : 0 ≤ (0 : Int) := (by omega)
              have q172 : 0 < (l1.length : Int) := of_decide_eq_true (by first | (with_reducible assumption) | assumption)
              obtain ⟨ad172, A172_1, c172_1, A172_2, c172_2, e172, hx172_0, hx172_1, hx172_2, hl172_1, hi172_1, hl172_2, hi172_2⟩ := at_T57 (Kd.PC_C HR1.out) 0 p172 q172
              cases e172
              have qi172 : (0 < l1.length) = True := eq_true (by omega)
              (try rw [show ((0 : Int)).toNat = 0 from rfl] at hx172_0)
              (try rw [show 0 * 3 = 0 from rfl] at hx172_0)
              (try rw [Addr.add_zero'] at hx172_0)
              (try rw [show ((0 : Int)).toNat = 0 from rfl] at hx172_1)
              (try rw [show 0 * 3 = 0 from rfl] at hx172_1)
              (try rw [Addr.add_zero'] at hx172_1)
              (try rw [show ((0 : Int)).toNat = 0 from rfl] at hx172_2)
              (try rw [show 0 * 3 = 0 from rfl] at hx172_2)
              (try rw [Addr.add_zero'] at hx172_2)
              have HR172_1 := Aside0.mk hi172_1
              have HC172_1 := Aside0.mk hl172_1
              clear hi172_1 hl172_1
              have HR172_2 := Aside0.mk hi172_2
              have HC172_2 := Aside0.mk hl172_2
              clear hi172_2 hl172_2
              replace p172 := eq_true p172
              replace q172 := eq_true q172
              have p173 : 0 ≤ (x38_2 : Int) := of_decide_eq_true (by first | (with_reducible assumption) | assumption)
              have q173 : x38_2 < (((rd_T57 l1 0).f1).length : Int) := of_decide_eq_true (by first | (with_reducible assumption) | assumption)
              obtain ⟨ad173, e173, hx173_0⟩ := Kd.at_int HR172_1.out x38_2 p173 q173
              cases e173
              replace p173 := eq_true p173
              replace q173 := eq_true q173
              go_wp2
              repeat (go_quiet (fail); try go_wp2)
              go_ret
              exact ⟨by first | rfl | (simp; done) | (simp [*]; done), by repeat (first | exact Drawn0.refl _ | apply Drawn0.step)⟩
            ·rw [if_neg c18] at H
             exact absurd H (by simp)
           ·rw [if_neg c17] at H
            exact absurd H (by simp)
          ·rw [if_neg c16] at H
           exact absurd H (by simp)
         ·rw [if_neg c15] at H
          exact absurd H (by simp)
        ·rw [if_neg c14] at H
         exact absurd H (by simp)
       ·rw [if_neg c13] at H
        have c13b0 : decide (x38_2 < (((rd_T57 l0 0).f1).length : Int)) = false := decide_eq_false c13
        clear c13
        by_cases c20 : 0 < (l0.length : Int)
        ·rw [if_pos c20] at H
         have c20b0 : decide (0 < (l0.length : Int)) = true := decide_eq_true c20
         have c20b1 : decide (0 < l0.length) = true := decide_eq_true (by omega)
         clear c20
         have H' := Aside0.mk H
         clear H
         have p174 : 0 ≤ (0 : Int) := (by omega)
         have q174 : 0 < (l0.length : Int) := of_decide_eq_true (by first | (with_reducible assumption) | assumption)
         obtain ⟨ad174, A174_1, c174_1, A174_2, c174_2, e174, hx174_0, hx174_1, hx174_2, hl174_1, hi174_1, hl174_2, hi174_2⟩ := at_T57 (Kd.PC_C HR0.out) 0 p174 q174
         obtain rfl : ad169 = ad174 := (by injection e174)
         have qi174 : (0 < l0.length) = True := eq_true (by omega)
         (try rw [show ((0 : Int)).toNat = 0 from rfl] at hx174_0)
         (try rw [show 0 * 3 = 0 from rfl] at hx174_0)
         (try rw [Addr.add_zero'] at hx174_0)
         (try rw [show ((0 : Int)).toNat = 0 from rfl] at hx174_1)
         (try rw [show 0 * 3 = 0 from rfl] at hx174_1)
         (try rw [Addr.add_zero'] at hx174_1)
         (try rw [show ((0 : Int)).toNat = 0 from rfl] at hx174_2)
         (try rw [show 0 * 3 = 0 from rfl] at hx174_2)
         (try rw [Addr.add_zero'] at hx174_2)
         have HR174_1 := Aside0.mk hi174_1
         have HC174_1 := Aside0.mk hl174_1
         clear hi174_1 hl174_1
         have HR174_2 := Aside0.mk hi174_2
         have HC174_2 := Aside0.mk hl174_2
         clear hi174_2 hl174_2
         replace p174 := eq_true p174
         replace q174 := eq_true q174
         go_wp2
         repeat (go_quiet (fail); try go_wp2)
         go_loopg [62] k2 (fun kq v62 w' => ∃ (x62_3 : Int), v62 = .int .i64 x62_3 ∧ Aside0 (trie_Trie_Same.l1 kq l0 l1 (((rd_T57 l0 0).f2).length : Int) x62_3 = some r) ∧ Aside0 (kq ≤ k2) ∧ Drawn0 w w')
         case atStart => exact ⟨(0), (by first | rfl | (simp; done) | (simp [*]; done)), H', ⟨Nat.le_refl _⟩, by repeat (first | exact Drawn0.refl _ | apply Drawn0.step)⟩
         case round =>
          clear H'
          (try clear c1); (try clear p1); (try clear q1); (try clear hx1); (try clear qi1); (try clear c2); (try clear p2); (try clear c4); (try clear c4b0); (try clear c6); (try clear c6b0); (try clear c6b1); (try clear p6); (try clear c7); (try clear c7b0); (try clear c7b1); (try clear c8); (try clear c8b0); (try clear c8b1); (try clear c11); (try clear c12); (try clear c12b0); (try clear c12b1); (try clear c13); (try clear c13b0); (try clear c14); (try clear c14b0); (try clear c14b1); (try clear c15); (try clear c15b0); (try clear c16); (try clear c16b0); (try clear p16); (try clear q16); (try clear hx16); (try clear qi16); (try clear c17); (try clear c17b0); (try clear c17b1); (try clear p17); (try clear q17); (try clear hx17); (try clear qi17); (try clear c18); (try clear c18b0); (try clear c19); (try clear c19b0); (try clear c19b1); (try clear c20); (try clear c20b0); (try clear c20b1); (try clear hx165_0); (try clear hx165_1); (try clear hx165_2); (try clear hx166_0); (try clear hx166_1); (try clear hx166_2); (try clear hx167_0); (try clear hx167_1); (try clear hx167_2); (try clear hx168_0); (try clear hx168_1); (try clear hx168_2); (try clear hx169_0); (try clear hx169_1); (try clear hx169_2); (try clear hx170_0); (try clear hx170_1); (try clear hx170_2); (try clear hx171_0); (try clear hx172_0); (try clear hx172_1); (try clear hx172_2); (try clear hx173_0); (try clear hx174_0); (try clear hx174_1); (try clear hx174_2); (try clear p1); (try clear p165); (try clear p166); (try clear p167); (try clear p168); (try clear p169); (try clear p170); (try clear p171); (try clear p172); (try clear p173); (try clear p174); (try clear p2); (try clear q1); (try clear q165); (try clear q166); (try clear q167); (try clear q168); (try clear q169); (try clear q170); (try clear q171); (try clear q172); (try clear q173); (try clear q174)
          obtain ⟨x62_3, rfl, HA, HK3, ⟨m3, rfl⟩⟩ := hrel
          cases gk with
          | zero => exact absurd HA.out (by simp [trie_Trie_Same.l1])
          | succ k3 =>
           have H := HA.out
           clear HA
           simp only [trie_Trie_Same.l1] at H
           by_cases c21 : x62_3 < (((rd_T57 l0 0).f2).length : Int)
           ·rw [if_pos c21] at H
            have c21b0 : decide (x62_3 < (((rd_T57 l0 0).f2).length : Int)) = true := decide_eq_true c21
            clear c21
            by_cases c22 : 0 < (l0.length : Int)
            ·rw [if_pos c22] at H
             have c22b0 : decide (0 < (l0.length : Int)) = true := decide_eq_true c22
             have c22b1 : decide (0 < l0.length) = true := decide_eq_true (by omega)
             clear c22
             by_cases c23 : 0 ≤ x62_3
             ·rw [if_pos c23] at H
              have c23b0 : decide (0 ≤ x62_3) = true := decide_eq_true c23
              clear c23
              by_cases c24 : x62_3 < (((rd_T57 l0 0).f2).length : Int)
              ·rw [if_pos c24] at H
               have c24b0 : decide (x62_3 < (((rd_T57 l0 0).f2).length : Int)) = true := decide_eq_true c24
               clear c24
               by_cases c25 : 0 < (l1.length : Int)
               ·rw [if_pos c25] at H
                have c25b0 : decide (0 < (l1.length : Int)) = true := decide_eq_true c25
                have c25b1 : decide (0 < l1.length) = true := decide_eq_true (by omega)
                clear c25
                by_cases c26 : x62_3 < (((rd_T57 l1 0).f2).length : Int)
                ·rw [if_pos c26] at H
                 have c26b0 : decide (x62_3 < (((rd_T57 l1 0).f2).length : Int)) = true := decide_eq_true c26
                 clear c26
                 by_cases c27 : ((arrEq 64 (rd_L4 ((rd_T57 l0 0).f2) x62_3) (rd_L4 ((rd_T57 l1 0).f2) x62_3)) = true)
                 ·rw [if_pos c27] at H
                  have c27b0 : (arrEq 64 (rd_L4 ((rd_T57 l0 0).f2) x62_3) (rd_L4 ((rd_T57 l1 0).f2) x62_3)) = true := c27
                  clear c27
                  have H' := Aside0.mk H
                  clear H
                  have p175 : 0 ≤ (0 : Int) := (by omega)
                  have q175 : 0 < (l0.length : Int) := of_decide_eq_true (by first | (with_reducible assumption) | assumption)
                  obtain ⟨ad175, A175_1, c175_1, A175_2, c175_2, e175, hx175_0, hx175_1, hx175_2, hl175_1, hi175_1, hl175_2, hi175_2⟩ := at_T57 (Kd.PC_C HR0.out) 0 p175 q175
                  obtain rfl : ad169 = ad175 := (by injection e175)
                  have qi175 : (0 < l0.length) = True := eq_true (by omega)
                  (try rw [show ((0 : Int)).toNat = 0 from rfl] at hx175_0)
                  (try rw [show 0 * 3 = 0 from rfl] at hx175_0)
                  (try rw [Addr.add_zero'] at hx175_0)
                  (try rw [show ((0 : Int)).toNat = 0 from rfl] at hx175_1)
                  (try rw [show 0 * 3 = 0 from rfl] at hx175_1)
                  (try rw [Addr.add_zero'] at hx175_1)
                  (try rw [show ((0 : Int)).toNat = 0 from rfl] at hx175_2)
                  (try rw [show 0 * 3 = 0 from rfl] at hx175_2)
                  (try rw [Addr.add_zero'] at hx175_2)
                  have HR175_1 := Aside0.mk hi175_1
                  have HC175_1 := Aside0.mk hl175_1
                  clear hi175_1 hl175_1
                  have HR175_2 := Aside0.mk hi175_2
                  have HC175_2 := Aside0.mk hl175_2
                  clear hi175_2 hl175_2
                  replace p175 := eq_true p175
                  replace q175 := eq_true q175
                  have p176 : 0 ≤ (x62_3 : Int) := of_decide_eq_true (by first | (with_reducible assumption) | assumption)
                  have q176 : x62_3 < (((rd_T57 l0 0).f2).length : Int) := of_decide_eq_true (by first | (with_reducible assumption) | assumption)
                  obtain ⟨ad176, e176, hx176_0⟩ := at_L4 HR175_2.out x62_3 p176 q176
                  cases e176
                  replace p176 := eq_true p176
                  replace q176 := eq_true q176
                  have p177 : 0 ≤ (0 : Int) := (by omega)
                  have q177 : 0 < (l1.length : Int) := of_decide_eq_true (by first | (with_reducible assumption) | assumption)
                  obtain ⟨ad177, A177_1, c177_1, A177_2, c177_2, e177, hx177_0, hx177_1, hx177_2, hl177_1, hi177_1, hl177_2, hi177_2⟩ := at_T57 (Kd.PC_C HR1.out) 0 p177 q177
                  cases e177
                  have qi177 : (0 < l1.length) = True := eq_true (by omega)
                  (try rw [show ((0 : Int)).toNat = 0 from rfl] at hx177_0)
                  (try rw [show 0 * 3 = 0 from rfl] at hx177_0)
                  (try rw [Addr.add_zero'] at hx177_0)
                  (try rw [show ((0 : Int)).toNat = 0 from rfl] at hx177_1)
                  (try rw [show 0 * 3 = 0 from rfl] at hx177_1)
                  (try rw [Addr.add_zero'] at hx177_1)
                  (try rw [show ((0 : Int)).toNat = 0 from rfl] at hx177_2)
                  (try rw [show 0 * 3 = 0 from rfl] at hx177_2)
                  (try rw [Addr.add_zero'] at hx177_2)
                  have HR177_1 := Aside0.mk hi177_1
                  have HC177_1 := Aside0.mk hl177_1
                  clear hi177_1 hl177_1
                  have HR177_2 := Aside0.mk hi177_2
                  have HC177_2 := Aside0.mk hl177_2
                  clear hi177_2 hl177_2
                  replace p177 := eq_true p177
                  replace q177 := eq_true q177
                  have p178 : 0 ≤ (x62_3 : Int) := of_decide_eq_true (by first | (with_reducible assumption) | assumption)
                  have q178 : x62_3 < (((rd_T57 l1 0).f2).length : Int) := of_decide_eq_true (by first | (with_reducible assumption) | assumption)
                  obtain ⟨ad178, e178, hx178_0⟩ := at_L4 HR177_2.out x62_3 p178 q178
                  cases e178
                  replace p178 := eq_true p178
                  replace q178 := eq_true q178
                  go_wp2_with (first | ((refine wpList_load_arr rfl _ rfl rfl hx176_0 Try.underlying50 (by kernel_rfl) ?_); (try simp only [Act.put, List.setIfInBounds_toArray, List.set_cons_zero, List.set_cons_succ])) | ((refine wpList_load_arr rfl _ rfl rfl hx178_0 Try.underlying50 (by kernel_rfl) ?_); (try simp only [Act.put, List.setIfInBounds_toArray, List.set_cons_zero, List.set_cons_succ])))
                  repeat ((refine wp_region_quiet_lit (by kernel_rfl) (by kernel_rfl) ?_; (repeat (first | ((first | refine wpQuiet_load_arr rfl _ rfl rfl hx176_0 Try.underlying50 (by kernel_rfl) ?_ | refine wpQuiet_load_arr rfl _ rfl rfl hx178_0 Try.underlying50 (by kernel_rfl) ?_); simp only [Act.put, List.setIfInBounds_toArray, List.set_cons_zero, List.set_cons_succ]) | go_big_quiet_step (fail) | quiet_step (fail))); refine wpQuiet_nil ?_; intro _ hwq_; obtain ⟨nq, hwr_⟩ := hwq_; subst hwr_); try go_wp2_with (first | ((refine wpList_load_arr rfl _ rfl rfl hx176_0 Try.underlying50 (by kernel_rfl) ?_); (try simp only [Act.put, List.setIfInBounds_toArray, List.set_cons_zero, List.set_cons_succ])) | ((refine wpList_load_arr rfl _ rfl rfl hx178_0 Try.underlying50 (by kernel_rfl) ?_); (try simp only [Act.put, List.setIfInBounds_toArray, List.set_cons_zero, List.set_cons_succ]))))
                  go_roundg k3
                  case measure => have := HJ2.out; have := HK2.out; have := HK3.out; omega
                  case rel => exact ⟨(wrap64 (x62_3 + 1)), (by first | rfl | (simp; done) | (simp [*]; done)), H', ⟨by have := HJ2.out; have := HK2.out; have := HK3.out; omega⟩, by repeat (first | exact Drawn0.refl _ | apply Drawn0.step)⟩
                 ·rw [if_neg c27] at H
                  have c27b0 : (arrEq 64 (rd_L4 ((rd_T57 l0 0).f2) x62_3) (rd_L4 ((rd_T57 l1 0).f2) x62_3)) = false := by simpa using c27
                  clear c27
                  obtain rfl := Option.some.inj H
                  have p175 : 0 ≤ (0 : Int) := (by omega)
                  have q175 : 0 < (l0.length : Int) := of_decide_eq_true (by first | (with_reducible assumption) | assumption)
                  obtain ⟨ad175, A175_1, c175_1, A175_2, c175_2, e175, hx175_0, hx175_1, hx175_2, hl175_1, hi175_1, hl175_2, hi175_2⟩ := at_T57 (Kd.PC_C HR0.out) 0 p175 q175
                  obtain rfl : ad169 = ad175 := (by injection e175)
                  have qi175 : (0 < l0.length) = True := eq_true (by omega)
                  (try rw [show ((0 : Int)).toNat = 0 from rfl] at hx175_0)
                  (try rw [show 0 * 3 = 0 from rfl] at hx175_0)
                  (try rw [Addr.add_zero'] at hx175_0)
                  (try rw [show ((0 : Int)).toNat = 0 from rfl] at hx175_1)
                  (try rw [show 0 * 3 = 0 from rfl] at hx175_1)
                  (try rw [Addr.add_zero'] at hx175_1)
                  (try rw [show ((0 : Int)).toNat = 0 from rfl] at hx175_2)
                  (try rw [show 0 * 3 = 0 from rfl] at hx175_2)
                  (try rw [Addr.add_zero'] at hx175_2)
                  have HR175_1 := Aside0.mk hi175_1
                  have HC175_1 := Aside0.mk hl175_1
                  clear hi175_1 hl175_1
                  have HR175_2 := Aside0.mk hi175_2
                  have HC175_2 := Aside0.mk hl175_2
                  clear hi175_2 hl175_2
                  replace p175 := eq_true p175
                  replace q175 := eq_true q175
                  have p176 : 0 ≤ (x62_3 : Int) := of_decide_eq_true (by first | (with_reducible assumption) | assumption)
                  have q176 : x62_3 < (((rd_T57 l0 0).f2).length : Int) := of_decide_eq_true (by first | (with_reducible assumption) | assumption)
                  obtain ⟨ad176, e176, hx176_0⟩ := at_L4 HR175_2.out x62_3 p176 q176
                  cases e176
                  replace p176 := eq_true p176
                  replace q176 := eq_true q176
                  have p177 : 0 ≤ (0 : Int) := (by omega)
                  have q177 : 0 < (l1.length : Int) := of_decide_eq_true (by first | (with_reducible assumption) | assumption)
                  obtain ⟨ad177, A177_1, c177_1, A177_2, c177_2, e177, hx177_0, hx177_1, hx177_2, hl177_1, hi177_1, hl177_2, hi177_2⟩ := at_T57 (Kd.PC_C HR1.out) 0 p177 q177
                  cases e177
                  have qi177 : (0 < l1.length) = True := eq_true (by omega)
                  (try rw [show ((0 : Int)).toNat = 0 from rfl] at hx177_0)
                  (try rw [show 0 * 3 = 0 from rfl] at hx177_0)
                  (try rw [Addr.add_zero'] at hx177_0)
                  (try rw [show ((0 : Int)).toNat = 0 from rfl] at hx177_1)
                  (try rw [show 0 * 3 = 0 from rfl] at hx177_1)
                  (try rw [Addr.add_zero'] at hx177_1)
                  (try rw [show ((0 : Int)).toNat = 0 from rfl] at hx177_2)
                  (try rw [show 0 * 3 = 0 from rfl] at hx177_2)
                  (try rw [Addr.add_zero'] at hx177_2)
                  have HR177_1 := Aside0.mk hi177_1
                  have HC177_1 := Aside0.mk hl177_1
                  clear hi177_1 hl177_1
                  have HR177_2 := Aside0.mk hi177_2
                  have HC177_2 := Aside0.mk hl177_2
                  clear hi177_2 hl177_2
                  replace p177 := eq_true p177
                  replace q177 := eq_true q177
                  have p178 : 0 ≤ (x62_3 : Int) := of_decide_eq_true (by first | (with_reducible assumption) | assumption)
                  have q178 : x62_3 < (((rd_T57 l1 0).f2).length : Int) := of_decide_eq_true (by first | (with_reducible assumption) | assumption)
                  obtain ⟨ad178, e178, hx178_0⟩ := at_L4 HR177_2.out x62_3 p178 q178
                  cases e178
                  replace p178 := eq_true p178
                  replace q178 := eq_true q178
                  go_wp2_with (first | ((refine wpList_load_arr rfl _ rfl rfl hx176_0 Try.underlying50 (by kernel_rfl) ?_); (try simp only [Act.put, List.setIfInBounds_toArray, List.set_cons_zero, List.set_cons_succ])) | ((refine wpList_load_arr rfl _ rfl rfl hx178_0 Try.underlying50 (by kernel_rfl) ?_); (try simp only [Act.put, List.setIfInBounds_toArray, List.set_cons_zero, List.set_cons_succ])))
                  repeat ((refine wp_region_quiet_lit (by kernel_rfl) (by kernel_rfl) ?_; (repeat (first | ((first | refine wpQuiet_load_arr rfl _ rfl rfl hx176_0 Try.underlying50 (by kernel_rfl) ?_ | refine wpQuiet_load_arr rfl _ rfl rfl hx178_0 Try.underlying50 (by kernel_rfl) ?_ | refine wpQuiet_load_arr rfl _ rfl rfl hx176_0 Try.underlying50 (by kernel_rfl) ?_ | refine wpQuiet_load_arr rfl _ rfl rfl hx178_0 Try.underlying50 (by kernel_rfl) ?_); simp only [Act.put, List.setIfInBounds_toArray, List.set_cons_zero, List.set_cons_succ]) | go_big_quiet_step (fail) | quiet_step (fail))); refine wpQuiet_nil ?_; intro _ hwq_; obtain ⟨nq, hwr_⟩ := hwq_; subst hwr_); try go_wp2_with (first | ((refine wpList_load_arr rfl _ rfl rfl hx176_0 Try.underlying50 (by kernel_rfl) ?_); (try simp only [Act.put, List.setIfInBounds_toArray, List.set_cons_zero, List.set_cons_succ])) | ((refine wpList_load_arr rfl _ rfl rfl hx178_0 Try.underlying50 (by kernel_rfl) ?_); (try simp only [Act.put, List.setIfInBounds_toArray, List.set_cons_zero, List.set_cons_succ]))))
                  go_ret
                  exact ⟨by first | rfl | (simp; done) | (simp [*]; done), by repeat (first | exact Drawn0.refl _ | apply Drawn0.step)⟩
                ·rw [if_neg c26] at H
                 exact absurd H (by simp)
               ·rw [if_neg c25] at H
                exact absurd H (by simp)
              ·rw [if_neg c24] at H
               exact absurd H (by simp)
             ·rw [if_neg c23] at H
              exact absurd H (by simp)
            ·rw [if_neg c22] at H
             exact absurd H (by simp)
           ·rw [if_neg c21] at H
            have c21b0 : decide (x62_3 < (((rd_T57 l0 0).f2).length : Int)) = false := decide_eq_false c21
            clear c21
            obtain rfl := Option.some.inj H
            go_wp2
            repeat ((refine wp_region_quiet_lit (by kernel_rfl) (by kernel_rfl) ?_; (repeat (first | ((first | refine wpQuiet_load_arr rfl _ rfl rfl hx176_0 Try.underlying50 (by kernel_rfl) ?_ | refine wpQuiet_load_arr rfl _ rfl rfl hx178_0 Try.underlying50 (by kernel_rfl) ?_ | refine wpQuiet_load_arr rfl _ rfl rfl hx176_0 Try.underlying50 (by kernel_rfl) ?_ | refine wpQuiet_load_arr rfl _ rfl rfl hx178_0 Try.underlying50 (by kernel_rfl) ?_); simp only [Act.put, List.setIfInBounds_toArray, List.set_cons_zero, List.set_cons_succ]) | go_big_quiet_step (fail) | quiet_step (fail))); refine wpQuiet_nil ?_; intro _ hwq_; obtain ⟨nq, hwr_⟩ := hwq_; subst hwr_); try go_wp2_with (fail))
            go_ret
            exact ⟨by first | rfl | (simp; done) | (simp [*]; done), by repeat (first | exact Drawn0.refl _ | apply Drawn0.step)⟩
        ·rw [if_neg c20] at H
         exact absurd H (by simp)
    ·rw [if_neg c12] at H
     exact absurd H (by simp)

end Go.Proofs.Ytiaodapgankjnaa.Q
