-- Written by wip/tools/pr.py of this session over the kit's print (widened); the words are the kit's print's own. Not trusted: Lean checks it.
import Derived.Test.YtiaodapgankjnaaQx0
namespace Go.Proofs.Ytiaodapgankjnaa.Q
open Go.RowKit Go.Proofs.YtiaodapgankjnaaW.PrintWords Go.Proofs.YtiaodapgankjnaaW.PrintLast Go.Proofs.YtiaodapgankjnaaW.PrintMore
attribute [local go_sem] max2_int min2_int max_two min_two max_three min_three max_four min_four   -- for this text's walks alone
set_option linter.unusedVariables false
set_option linter.unusedSimpArgs false

attribute [local go_sem high] eqA50
/-! ### trie_Trie_Same: function 17 -/
mutual
def trie_Trie_Same.j0 : Nat → List (S57) → List (S57) → Bool → Option (Bool)
 | 0, _, _, _ => none
 | k + 1, x0, x1, x32 => if x32 = true then (some false) else (if 0 < (x0.length : Int) then (trie_Trie_Same.l0 k x0 x1 (((rd_T57 x0 0).f1).length : Int) 0) else (none))
def trie_Trie_Same.l0 : Nat → List (S57) → List (S57) → Int → Int → Option (Bool)
 | 0, _, _, _, _ => none
 | k + 1, x0, x1, x37, x38 => if x38 < x37 then (if 0 < (x0.length : Int) then (if 0 ≤ x38 then (if x38 < (((rd_T57 x0 0).f1).length : Int) then (if 0 < (x1.length : Int) then (if x38 < (((rd_T57 x1 0).f1).length : Int) then (if (rd ((rd_T57 x0 0).f1) x38) = (rd ((rd_T57 x1 0).f1) x38) then (trie_Trie_Same.l0 k x0 x1 x37 (wrap64 (x38 + 1))) else (some false)) else (none)) else (none)) else (none)) else (none)) else (none)) else (if 0 < (x0.length : Int) then (trie_Trie_Same.l1 k x0 x1 (((rd_T57 x0 0).f2).length : Int) 0) else (none))
def trie_Trie_Same.l1 : Nat → List (S57) → List (S57) → Int → Int → Option (Bool)
 | 0, _, _, _, _ => none
 | k + 1, x0, x1, x61, x62 => if x62 < x61 then (if 0 < (x0.length : Int) then (if 0 ≤ x62 then (if x62 < (((rd_T57 x0 0).f2).length : Int) then (if 0 < (x1.length : Int) then (if x62 < (((rd_T57 x1 0).f2).length : Int) then (if ((arrEq 64 (rd_L4 ((rd_T57 x0 0).f2) x62) (rd_L4 ((rd_T57 x1 0).f2) x62)) = true) then (trie_Trie_Same.l1 k x0 x1 x61 (wrap64 (x62 + 1))) else (some false)) else (none)) else (none)) else (none)) else (none)) else (none)) else (some true)
end
def trie_Trie_Same.f (k : Nat) (l0 : List (S57)) (l1 : List (S57)) : Option (Bool) := if (l1.isEmpty) = true then (trie_Trie_Same.j0 k l0 l1 true) else (if 0 < (l0.length : Int) then (if 0 < (l1.length : Int) then (if ((rd_T57 l0 0).f0) = ((rd_T57 l1 0).f0) then (trie_Trie_Same.j0 k l0 l1 ((((rd_T57 l0 0).f2).length : Int) != (((rd_T57 l1 0).f2).length : Int))) else (trie_Trie_Same.j0 k l0 l1 true)) else (none)) else (none))
theorem trie_Trie_Same.mono_l : ∀ k, (∀ y0 y1 y2, LeO (trie_Trie_Same.j0 k y0 y1 y2) (trie_Trie_Same.j0 (k + 1) y0 y1 y2)) ∧ (∀ y0 y1 y2 y3, LeO (trie_Trie_Same.l0 k y0 y1 y2 y3) (trie_Trie_Same.l0 (k + 1) y0 y1 y2 y3)) ∧ (∀ y0 y1 y2 y3, LeO (trie_Trie_Same.l1 k y0 y1 y2 y3) (trie_Trie_Same.l1 (k + 1) y0 y1 y2 y3))
 | 0 => ⟨fun _ _ _ r h => by simp [trie_Trie_Same.j0] at h, fun _ _ _ _ r h => by simp [trie_Trie_Same.l0] at h, fun _ _ _ _ r h => by simp [trie_Trie_Same.l1] at h⟩
 | k + 1 => by
  obtain ⟨ih0, ih1, ih2⟩ := trie_Trie_Same.mono_l k
  refine ⟨?_, ?_, ?_⟩
  ·intro y0 y1 y2
   unfold trie_Trie_Same.j0
   repeat' first
   | (with_reducible exact ih0 _ _ _)
   | (with_reducible exact ih1 _ _ _ _)
   | (with_reducible exact ih2 _ _ _ _)
   | (with_reducible exact LeO.refl _)
   | (with_reducible exact LeO.none _)
   | (with_reducible refine LeO.ite ?_ ?_)
   | (with_reducible refine LeO.bind ?_ (fun _ => ?_))
   | exact ih0 _ _ _
   | exact ih1 _ _ _ _
   | exact ih2 _ _ _ _
   | exact LeO.none _
   | refine LeO.ite ?_ ?_
   | refine LeO.bind ?_ (fun _ => ?_)
  ·intro y0 y1 y2 y3
   unfold trie_Trie_Same.l0
   repeat' first
   | (with_reducible exact ih0 _ _ _)
   | (with_reducible exact ih1 _ _ _ _)
   | (with_reducible exact ih2 _ _ _ _)
   | (with_reducible exact LeO.refl _)
   | (with_reducible exact LeO.none _)
   | (with_reducible refine LeO.ite ?_ ?_)
   | (with_reducible refine LeO.bind ?_ (fun _ => ?_))
   | exact ih0 _ _ _
   | exact ih1 _ _ _ _
   | exact ih2 _ _ _ _
   | exact LeO.none _
   | refine LeO.ite ?_ ?_
   | refine LeO.bind ?_ (fun _ => ?_)
  ·intro y0 y1 y2 y3
   unfold trie_Trie_Same.l1
   repeat' first
   | (with_reducible exact ih0 _ _ _)
   | (with_reducible exact ih1 _ _ _ _)
   | (with_reducible exact ih2 _ _ _ _)
   | (with_reducible exact LeO.refl _)
   | (with_reducible exact LeO.none _)
   | (with_reducible refine LeO.ite ?_ ?_)
   | (with_reducible refine LeO.bind ?_ (fun _ => ?_))
   | exact ih0 _ _ _
   | exact ih1 _ _ _ _
   | exact ih2 _ _ _ _
   | exact LeO.none _
   | refine LeO.ite ?_ ?_
   | refine LeO.bind ?_ (fun _ => ?_)
theorem trie_Trie_Same.mono : ∀ a0 a1 k, LeO (trie_Trie_Same.f k a0 a1) (trie_Trie_Same.f (k + 1) a0 a1) := by
 intro a0 a1 k
 obtain ⟨ih0, ih1, ih2⟩ := trie_Trie_Same.mono_l k
 unfold trie_Trie_Same.f
 repeat' first
   | (with_reducible exact ih0 _ _ _)
   | (with_reducible exact ih1 _ _ _ _)
   | (with_reducible exact ih2 _ _ _ _)
   | (with_reducible exact LeO.refl _)
   | (with_reducible exact LeO.none _)
   | (with_reducible refine LeO.ite ?_ ?_)
   | (with_reducible refine LeO.bind ?_ (fun _ => ?_))
   | exact ih0 _ _ _
   | exact ih1 _ _ _ _
   | exact ih2 _ _ _ _
   | exact LeO.none _
   | refine LeO.ite ?_ ?_
   | refine LeO.bind ?_ (fun _ => ?_)
set_option maxHeartbeats 8000000 in
set_option maxRecDepth 100000 in
theorem trie_Trie_Same.calls (k : Nat) (A0 : Option Addr) (l0 : List (S57)) (A1 : Option Addr) (l1 : List (S57)) (r : Bool) (w : World) (hr0 : Kd.PC k57 w A0 l0.length l0) (hr1 : Kd.PC k57 w A1 l1.length l1) (h : trie_Trie_Same.f k l0 l1 = some r) :
  Calls Try.prog 17 #[.pointer A0, .pointer A1] w fun e w' => e = .returned (.bool r) ∧ Drawn0 w w' := by
 have HR0 := Aside0.mk hr0
 clear hr0
 have HR1 := Aside0.mk hr1
 clear hr1
 have H : (if (l1.isEmpty) = true then (trie_Trie_Same.j0 k l0 l1 true) else (if 0 < (l0.length : Int) then (if 0 < (l1.length : Int) then (if ((rd_T57 l0 0).f0) = ((rd_T57 l1 0).f0) then (trie_Trie_Same.j0 k l0 l1 ((((rd_T57 l0 0).f2).length : Int) != (((rd_T57 l1 0).f2).length : Int))) else (trie_Trie_Same.j0 k l0 l1 true)) else (none)) else (none))) = some r := h
 clear h
 have HC3 := Aside0.mk H
 clear H
 go_enter Try.func17, Try.ntmps17
 go_upto_region 1 with (fail)
 repeat (go_quiet (fail); go_upto_region 1 with (fail))
 go_cut [32] (fun v32 wc => ∃ (kq : Nat) (x32_2 : Bool), v32 = .bool x32_2 ∧ Aside0 (trie_Trie_Same.j0 kq l0 l1 x32_2 = some r) ∧ Aside0 (kq ≤ k) ∧ Drawn0 w wc)
 case first =>
  have H := HC3.out
  clear HC3
  by_cases c4 : (l1.isEmpty) = true
  ·rw [if_pos c4] at H
   have c4b0 : (l1.isEmpty) = true := c4
   clear c4
   (first | rw [c4b0] | (simp only [i64_w, i32_w]; rw [c4b0]) | skip)
   have H' := Aside0.mk H
   clear H
   have hz5 := Kd.PC_isNone (HR1.out)
   go_wp2
   repeat (go_quiet (fail); try go_wp2)
   go_meet
   case rel => exact ⟨_, (true), (by first | rfl | (simp; done) | (simp [*]; done)), H', ⟨by first | omega | exact Nat.le_refl _⟩, by repeat (first | exact Drawn0.refl _ | apply Drawn0.step)⟩
  ·rw [if_neg c4] at H
   have c4b0 : (l1.isEmpty) = false := by simpa using c4
   clear c4
   (first | rw [c4b0] | (simp only [i64_w, i32_w]; rw [c4b0]) | skip)
   by_cases c6 : 0 < (l0.length : Int)
   ·rw [if_pos c6] at H
    have c6b0 : decide (0 < (l0.length : Int)) = true := decide_eq_true c6
    have c6b1 : decide (0 < l0.length) = true := decide_eq_true (by omega)
    clear c6
    by_cases c7 : 0 < (l1.length : Int)
    ·rw [if_pos c7] at H
     have c7b0 : decide (0 < (l1.length : Int)) = true := decide_eq_true c7
     have c7b1 : decide (0 < l1.length) = true := decide_eq_true (by omega)
     clear c7
     by_cases c8 : ((rd_T57 l0 0).f0) = ((rd_T57 l1 0).f0)
     ·rw [if_pos c8] at H
      have c8b0 : (((rd_T57 l0 0).f0) == ((rd_T57 l1 0).f0)) = true := beq_iff_eq.mpr c8
      have c8b1 : (((rd_T57 l0 0).f0) != ((rd_T57 l1 0).f0)) = false := bne_eq_false_iff_eq.mpr c8
      clear c8
      have H' := Aside0.mk H
      clear H
      have hz9 := Kd.PC_isNone (HR1.out)
      have p235 : 0 ≤ (0 : Int) := (by omega)
      have q235 : 0 < (l0.length : Int) := of_decide_eq_true (by first | (with_reducible assumption) | assumption)
      obtain ⟨ad235, A235_1, c235_1, A235_2, c235_2, e235, hx235_0, hx235_1, hx235_2, hl235_1, hi235_1, hl235_2, hi235_2⟩ := at_T57 (Kd.PC_C HR0.out) 0 p235 q235
      cases e235
      have qi235 : (0 < l0.length) = True := eq_true (by omega)
      (try rw [show ((0 : Int)).toNat = 0 from rfl] at hx235_0)
      (try rw [show 0 * 3 = 0 from rfl] at hx235_0)
      (try rw [Addr.add_zero'] at hx235_0)
      (try rw [show ((0 : Int)).toNat = 0 from rfl] at hx235_1)
      (try rw [show 0 * 3 = 0 from rfl] at hx235_1)
      (try rw [Addr.add_zero'] at hx235_1)
      (try rw [show ((0 : Int)).toNat = 0 from rfl] at hx235_2)
      (try rw [show 0 * 3 = 0 from rfl] at hx235_2)
      (try rw [Addr.add_zero'] at hx235_2)
      have HR235_1 := Aside0.mk hi235_1
      have HC235_1 := Aside0.mk hl235_1
      clear hi235_1 hl235_1
      have HR235_2 := Aside0.mk hi235_2
      have HC235_2 := Aside0.mk hl235_2
      clear hi235_2 hl235_2
      replace p235 := eq_true p235
      replace q235 := eq_true q235
      have p236 : 0 ≤ (0 : Int) := (by omega)
      have q236 : 0 < (l1.length : Int) := of_decide_eq_true (by first | (with_reducible assumption) | assumption)
      obtain ⟨ad236, A236_1, c236_1, A236_2, c236_2, e236, hx236_0, hx236_1, hx236_2, hl236_1, hi236_1, hl236_2, hi236_2⟩ := at_T57 (Kd.PC_C HR1.out) 0 p236 q236
      cases e236
      have qi236 : (0 < l1.length) = True := eq_true (by omega)
      (try rw [show ((0 : Int)).toNat = 0 from rfl] at hx236_0)
      (try rw [show 0 * 3 = 0 from rfl] at hx236_0)
      (try rw [Addr.add_zero'] at hx236_0)
      (try rw [show ((0 : Int)).toNat = 0 from rfl] at hx236_1)
      (try rw [show 0 * 3 = 0 from rfl] at hx236_1)
      (try rw [Addr.add_zero'] at hx236_1)
      (try rw [show ((0 : Int)).toNat = 0 from rfl] at hx236_2)
      (try rw [show 0 * 3 = 0 from rfl] at hx236_2)
      (try rw [Addr.add_zero'] at hx236_2)
      have HR236_1 := Aside0.mk hi236_1
      have HC236_1 := Aside0.mk hl236_1
      clear hi236_1 hl236_1
      have HR236_2 := Aside0.mk hi236_2
      have HC236_2 := Aside0.mk hl236_2
      clear hi236_2 hl236_2
      replace p236 := eq_true p236
      replace q236 := eq_true q236
      have p237 : 0 ≤ (0 : Int) := (by omega)
      have q237 : 0 < (l0.length : Int) := of_decide_eq_true (by first | (with_reducible assumption) | assumption)
      obtain ⟨ad237, A237_1, c237_1, A237_2, c237_2, e237, hx237_0, hx237_1, hx237_2, hl237_1, hi237_1, hl237_2, hi237_2⟩ := at_T57 (Kd.PC_C HR0.out) 0 p237 q237
      obtain rfl : ad235 = ad237 := (by injection e237)
      have qi237 : (0 < l0.length) = True := eq_true (by omega)
      (try rw [show ((0 : Int)).toNat = 0 from rfl] at hx237_0)
      (try rw [show 0 * 3 = 0 from rfl] at hx237_0)
      (try rw [Addr.add_zero'] at hx237_0)
      (try rw [show ((0 : Int)).toNat = 0 from rfl] at hx237_1)
      (try rw [show 0 * 3 = 0 from rfl] at hx237_1)
      (try rw [Addr.add_zero'] at hx237_1)
      (try rw [show ((0 : Int)).toNat = 0 from rfl] at hx237_2)
      (try rw [show 0 * 3 = 0 from rfl] at hx237_2)
      (try rw [Addr.add_zero'] at hx237_2)
      have HR237_1 := Aside0.mk hi237_1
      have HC237_1 := Aside0.mk hl237_1
      clear hi237_1 hl237_1
      have HR237_2 := Aside0.mk hi237_2
      have HC237_2 := Aside0.mk hl237_2
      clear hi237_2 hl237_2
      replace p237 := eq_true p237
      replace q237 := eq_true q237
      have ea_ := Option.some.inj (hx235_1.symm.trans hx237_1)
      injection ea_ with ea_ en_ ec_
      subst ea_
      subst ec_
      clear en_
      have ea_ := Option.some.inj (hx235_2.symm.trans hx237_2)
      injection ea_ with ea_ en_ ec_
      subst ea_
      subst ec_
      clear en_
      have p238 : 0 ≤ (0 : Int) := (by omega)
      have q238 : 0 < (l1.length : Int) := of_decide_eq_true (by first | (with_reducible assumption) | assumption)
      obtain ⟨ad238, A238_1, c238_1, A238_2, c238_2, e238, hx238_0, hx238_1, hx238_2, hl238_1, hi238_1, hl238_2, hi238_2⟩ := at_T57 (Kd.PC_C HR1.out) 0 p238 q238
      obtain rfl : ad236 = ad238 := (by injection e238)
      have qi238 : (0 < l1.length) = True := eq_true (by omega)
      (try rw [show ((0 : Int)).toNat = 0 from rfl] at hx238_0)
      (try rw [show 0 * 3 = 0 from rfl] at hx238_0)
      (try rw [Addr.add_zero'] at hx238_0)
      (try rw [show ((0 : Int)).toNat = 0 from rfl] at hx238_1)
      (try rw [show 0 * 3 = 0 from rfl] at hx238_1)
      (try rw [Addr.add_zero'] at hx238_1)
      (try rw [show ((0 : Int)).toNat = 0 from rfl] at hx238_2)
      (try rw [show 0 * 3 = 0 from rfl] at hx238_2)
      (try rw [Addr.add_zero'] at hx238_2)
      have HR238_1 := Aside0.mk hi238_1
      have HC238_1 := Aside0.mk hl238_1
      clear hi238_1 hl238_1
      have HR238_2 := Aside0.mk hi238_2
      have HC238_2 := Aside0.mk hl238_2
      clear hi238_2 hl238_2
      replace p238 := eq_true p238
      replace q238 := eq_true q238
      have ea_ := Option.some.inj (hx236_1.symm.trans hx238_1)
      injection ea_ with ea_ en_ ec_
      subst ea_
      subst ec_
      clear en_
      have ea_ := Option.some.inj (hx236_2.symm.trans hx238_2)
      injection ea_ with ea_ en_ ec_
      subst ea_
      subst ec_
      clear en_
      go_wp2
      repeat (go_quiet (fail); try go_wp2)
      go_meet
      case rel => exact ⟨_, (((((rd_T57 l0 0).f2).length : Int) != (((rd_T57 l1 0).f2).length : Int))), (by first | rfl | (simp; done) | (simp [*]; done)), H', ⟨by first | omega | exact Nat.le_refl _⟩, by repeat (first | exact Drawn0.refl _ | apply Drawn0.step)⟩
     ·rw [if_neg c8] at H
      have c8b0 : (((rd_T57 l0 0).f0) == ((rd_T57 l1 0).f0)) = false := beq_eq_false_iff_ne.mpr c8
      have c8b1 : (((rd_T57 l0 0).f0) != ((rd_T57 l1 0).f0)) = true := bne_iff_ne.mpr c8
      have H' := Aside0.mk H
      clear H
      have hz10 := Kd.PC_isNone (HR1.out)
      have p235 : 0 ≤ (0 : Int) := (by omega)
      have q235 : 0 < (l0.length : Int) := of_decide_eq_true (by first | (with_reducible assumption) | assumption)
      obtain ⟨ad235, A235_1, c235_1, A235_2, c235_2, e235, hx235_0, hx235_1, hx235_2, hl235_1, hi235_1, hl235_2, hi235_2⟩ := at_T57 (Kd.PC_C HR0.out) 0 p235 q235
      cases e235
      have qi235 : (0 < l0.length) = True := eq_true (by omega)
      (try rw [show ((0 : Int)).toNat = 0 from rfl] at hx235_0)
      (try rw [show 0 * 3 = 0 from rfl] at hx235_0)
      (try rw [Addr.add_zero'] at hx235_0)
      (try rw [show ((0 : Int)).toNat = 0 from rfl] at hx235_1)
      (try rw [show 0 * 3 = 0 from rfl] at hx235_1)
      (try rw [Addr.add_zero'] at hx235_1)
      (try rw [show ((0 : Int)).toNat = 0 from rfl] at hx235_2)
      (try rw [show 0 * 3 = 0 from rfl] at hx235_2)
      (try rw [Addr.add_zero'] at hx235_2)
      have HR235_1 := Aside0.mk hi235_1
      have HC235_1 := Aside0.mk hl235_1
      clear hi235_1 hl235_1
      have HR235_2 := Aside0.mk hi235_2
      have HC235_2 := Aside0.mk hl235_2
      clear hi235_2 hl235_2
      replace p235 := eq_true p235
      replace q235 := eq_true q235
      have p236 : 0 ≤ (0 : Int) := (by omega)
      have q236 : 0 < (l1.length : Int) := of_decide_eq_true (by first | (with_reducible assumption) | assumption)
      obtain ⟨ad236, A236_1, c236_1, A236_2, c236_2, e236, hx236_0, hx236_1, hx236_2, hl236_1, hi236_1, hl236_2, hi236_2⟩ := at_T57 (Kd.PC_C HR1.out) 0 p236 q236
      cases e236
      have qi236 : (0 < l1.length) = True := eq_true (by omega)
      (try rw [show ((0 : Int)).toNat = 0 from rfl] at hx236_0)
      (try rw [show 0 * 3 = 0 from rfl] at hx236_0)
      (try rw [Addr.add_zero'] at hx236_0)
      (try rw [show ((0 : Int)).toNat = 0 from rfl] at hx236_1)
      (try rw [show 0 * 3 = 0 from rfl] at hx236_1)
      (try rw [Addr.add_zero'] at hx236_1)
      (try rw [show ((0 : Int)).toNat = 0 from rfl] at hx236_2)
      (try rw [show 0 * 3 = 0 from rfl] at hx236_2)
      (try rw [Addr.add_zero'] at hx236_2)
      have HR236_1 := Aside0.mk hi236_1
      have HC236_1 := Aside0.mk hl236_1
      clear hi236_1 hl236_1
      have HR236_2 := Aside0.mk hi236_2
      have HC236_2 := Aside0.mk hl236_2
      clear hi236_2 hl236_2
      replace p236 := eq_true p236
      replace q236 := eq_true q236
      go_wp2
      repeat (go_quiet (fail); try go_wp2)
      go_meet
      case rel => exact ⟨_, (true), (by first | rfl | (simp; done) | (simp [*]; done)), H', ⟨by first | omega | exact Nat.le_refl _⟩, by repeat (first | exact Drawn0.refl _ | apply Drawn0.step)⟩
    ·rw [if_neg c7] at H
     exact absurd H (by simp)
   ·rw [if_neg c6] at H
    exact absurd H (by simp)
 case rest =>
  clear HC3
  try clear c1
  try clear c2
  try clear p2
  try clear q2
  try clear hx2
  try clear qi2
  try clear c4
  try clear c4b0
  try clear c6
  try clear c6b0
  try clear c6b1
  try clear c7
  try clear c7b0
  try clear c7b1
  try clear c8
  try clear c8b0
  try clear c8b1
  try clear hx235_0
  try clear hx235_1
  try clear hx235_2
  try clear hx236_0
  try clear hx236_1
  try clear hx236_2
  try clear hx237_0
  try clear hx237_1
  try clear hx237_2
  try clear hx238_0
  try clear hx238_1
  try clear hx238_2
  try clear p235
  try clear p236
  try clear p237
  try clear p238
  try clear q235
  try clear q236
  try clear q237
  try clear q238
  obtain ⟨kq, x32_2, rfl, HA, HJ2, ⟨mc2, rfl⟩⟩ := hcut
  cases kq with
  | zero => exact absurd HA.out (by simp [trie_Trie_Same.j0])
  | succ kj2 =>
   have H := HA.out
   clear HA
   simp only [trie_Trie_Same.j0] at H
   by_cases c11 : x32_2 = true
   ·subst c11
    have H1 : (some false) = some r := by rw [if_pos rfl] at H; exact H
    clear H
    have H := H1
    clear H1
    obtain rfl := Option.some.inj H
    go_wp2
    repeat (go_quiet (fail); try go_wp2)
    go_ret
    exact ⟨by first | rfl | (simp; done) | (simp [*]; done), by repeat (first | exact Drawn0.refl _ | apply Drawn0.step)⟩
   ·replace c11 := Bool.eq_false_iff.mpr c11
    subst c11
    have H1 : (if 0 < (l0.length : Int) then (trie_Trie_Same.l0 kj2 l0 l1 (((rd_T57 l0 0).f1).length : Int) 0) else (none)) = some r := by rw [if_neg (show ¬ (false = true) by decide)] at H; exact H
    clear H
    have H := H1
    clear H1
    by_cases c12 : 0 < (l0.length : Int)
    ·rw [if_pos c12] at H
     have c12b0 : decide (0 < (l0.length : Int)) = true := decide_eq_true c12
     have c12b1 : decide (0 < l0.length) = true := decide_eq_true (by omega)
     clear c12
     have H' := Aside0.mk H
     clear H
     have p239 : 0 ≤ (0 : Int) := (by omega)
     have q239 : 0 < (l0.length : Int) := of_decide_eq_true (by first | (with_reducible assumption) | assumption)
     obtain ⟨ad239, A239_1, c239_1, A239_2, c239_2, e239, hx239_0, hx239_1, hx239_2, hl239_1, hi239_1, hl239_2, hi239_2⟩ := at_T57 (Kd.PC_C HR0.out) 0 p239 q239
     cases e239
     have qi239 : (0 < l0.length) = True := eq_true (by omega)
     (try rw [show ((0 : Int)).toNat = 0 from rfl] at hx239_0)
     (try rw [show 0 * 3 = 0 from rfl] at hx239_0)
     (try rw [Addr.add_zero'] at hx239_0)
     (try rw [show ((0 : Int)).toNat = 0 from rfl] at hx239_1)
     (try rw [show 0 * 3 = 0 from rfl] at hx239_1)
     (try rw [Addr.add_zero'] at hx239_1)
     (try rw [show ((0 : Int)).toNat = 0 from rfl] at hx239_2)
     (try rw [show 0 * 3 = 0 from rfl] at hx239_2)
     (try rw [Addr.add_zero'] at hx239_2)
     have HR239_1 := Aside0.mk hi239_1
     have HC239_1 := Aside0.mk hl239_1
     clear hi239_1 hl239_1
     have HR239_2 := Aside0.mk hi239_2
     have HC239_2 := Aside0.mk hl239_2
     clear hi239_2 hl239_2
     replace p239 := eq_true p239
     replace q239 := eq_true q239
     go_wp2
     repeat (go_quiet (fail); try go_wp2)
     go_loopg [38] kj2 (fun kq v38 w' => ∃ (x38_2 : Int), v38 = .int .i64 x38_2 ∧ Aside0 (trie_Trie_Same.l0 kq l0 l1 (((rd_T57 l0 0).f1).length : Int) x38_2 = some r) ∧ Aside0 (kq ≤ kj2) ∧ Drawn0 w w')
     case atStart => exact ⟨(0), (by first | rfl | (simp; done) | (simp [*]; done)), H', ⟨Nat.le_refl _⟩, by repeat (first | exact Drawn0.refl _ | apply Drawn0.step)⟩
     case round =>
      clear H'
      try clear c1
      try clear c2
      try clear p2
      try clear q2
      try clear hx2
      try clear qi2
      try clear c4
      try clear c4b0
      try clear c6
      try clear c6b0
      try clear c6b1
      try clear c7
      try clear c7b0
      try clear c7b1
      try clear c8
      try clear c8b0
      try clear c8b1
      try clear c11
      try clear c12
      try clear c12b0
      try clear c12b1
      try clear hx235_0
      try clear hx235_1
      try clear hx235_2
      try clear hx236_0
      try clear hx236_1
      try clear hx236_2
      try clear hx237_0
      try clear hx237_1
      try clear hx237_2
      try clear hx238_0
      try clear hx238_1
      try clear hx238_2
      try clear hx239_0
      try clear hx239_1
      try clear hx239_2
      try clear p2
      try clear p235
      try clear p236
      try clear p237
      try clear p238
      try clear p239
      try clear q2
      try clear q235
      try clear q236
      try clear q237
      try clear q238
      try clear q239
      obtain ⟨x38_2, rfl, HA, HK2, ⟨m2, rfl⟩⟩ := hrel
      cases gk with
      | zero => exact absurd HA.out (by simp [trie_Trie_Same.l0])
      | succ k2 =>
       have H := HA.out
       clear HA
       simp only [trie_Trie_Same.l0] at H
       by_cases c13 : x38_2 < (((rd_T57 l0 0).f1).length : Int)
       ·rw [if_pos c13] at H
        have c13b0 : decide (x38_2 < (((rd_T57 l0 0).f1).length : Int)) = true := decide_eq_true c13
        clear c13
        by_cases c14 : 0 < (l0.length : Int)
        ·rw [if_pos c14] at H
         have c14b0 : decide (0 < (l0.length : Int)) = true := decide_eq_true c14
         have c14b1 : decide (0 < l0.length) = true := decide_eq_true (by omega)
         clear c14
         by_cases c15 : 0 ≤ x38_2
         ·rw [if_pos c15] at H
          have c15b0 : decide (0 ≤ x38_2) = true := decide_eq_true c15
          clear c15
          by_cases c16 : x38_2 < (((rd_T57 l0 0).f1).length : Int)
          ·rw [if_pos c16] at H
           have c16b0 : decide (x38_2 < (((rd_T57 l0 0).f1).length : Int)) = true := decide_eq_true c16
           clear c16
           by_cases c17 : 0 < (l1.length : Int)
           ·rw [if_pos c17] at H
            have c17b0 : decide (0 < (l1.length : Int)) = true := decide_eq_true c17
            have c17b1 : decide (0 < l1.length) = true := decide_eq_true (by omega)
            clear c17
            by_cases c18 : x38_2 < (((rd_T57 l1 0).f1).length : Int)
            ·rw [if_pos c18] at H
             have c18b0 : decide (x38_2 < (((rd_T57 l1 0).f1).length : Int)) = true := decide_eq_true c18
             clear c18
             by_cases c19 : (rd ((rd_T57 l0 0).f1) x38_2) = (rd ((rd_T57 l1 0).f1) x38_2)
             ·rw [if_pos c19] at H
              have c19b0 : ((rd ((rd_T57 l0 0).f1) x38_2) == (rd ((rd_T57 l1 0).f1) x38_2)) = true := beq_iff_eq.mpr c19
              have c19b1 : ((rd ((rd_T57 l0 0).f1) x38_2) != (rd ((rd_T57 l1 0).f1) x38_2)) = false := bne_eq_false_iff_eq.mpr c19
              clear c19
              have H' := Aside0.mk H
              clear H
              have p240 : 0 ≤ (0 : Int) := (by omega)
              have q240 : 0 < (l0.length : Int) := of_decide_eq_true (by first | (with_reducible assumption) | assumption)
              obtain ⟨ad240, A240_1, c240_1, A240_2, c240_2, e240, hx240_0, hx240_1, hx240_2, hl240_1, hi240_1, hl240_2, hi240_2⟩ := at_T57 (Kd.PC_C HR0.out) 0 p240 q240
              obtain rfl : ad239 = ad240 := (by injection e240)
              have qi240 : (0 < l0.length) = True := eq_true (by omega)
              (try rw [show ((0 : Int)).toNat = 0 from rfl] at hx240_0)
              (try rw [show 0 * 3 = 0 from rfl] at hx240_0)
              (try rw [Addr.add_zero'] at hx240_0)
              (try rw [show ((0 : Int)).toNat = 0 from rfl] at hx240_1)
              (try rw [show 0 * 3 = 0 from rfl] at hx240_1)
              (try rw [Addr.add_zero'] at hx240_1)
              (try rw [show ((0 : Int)).toNat = 0 from rfl] at hx240_2)
              (try rw [show 0 * 3 = 0 from rfl] at hx240_2)
              (try rw [Addr.add_zero'] at hx240_2)
              have HR240_1 := Aside0.mk hi240_1
              have HC240_1 := Aside0.mk hl240_1
              clear hi240_1 hl240_1
              have HR240_2 := Aside0.mk hi240_2
              have HC240_2 := Aside0.mk hl240_2
              clear hi240_2 hl240_2
              replace p240 := eq_true p240
              replace q240 := eq_true q240
              have p241 : 0 ≤ (x38_2 : Int) := of_decide_eq_true (by first | (with_reducible assumption) | assumption)
              have q241 : x38_2 < (((rd_T57 l0 0).f1).length : Int) := of_decide_eq_true (by first | (with_reducible assumption) | assumption)
              obtain ⟨ad241, e241, hx241_0⟩ := Kd.at_int HR240_1.out x38_2 p241 q241
              cases e241
              replace p241 := eq_true p241
              replace q241 := eq_true q241
              have p242 : 0 ≤ (0 : Int) := (by omega)
              have q242 : 0 < (l1.length : Int) := of_decide_eq_true (by first | (with_reducible assumption) | assumption)
              obtain ⟨ad242, A242_1, c242_1, A242_2, c242_2, e242, hx242_0, hx242_1, hx242_2, hl242_1, hi242_1, hl242_2, hi242_2⟩ := at_T57 (Kd.PC_C HR1.out) 0 p242 q242
              cases e242
              have qi242 : (0 < l1.length) = True := eq_true (by omega)
              (try rw [show ((0 : Int)).toNat = 0 from rfl] at hx242_0)
              (try rw [show 0 * 3 = 0 from rfl] at hx242_0)
              (try rw [Addr.add_zero'] at hx242_0)
              (try rw [show ((0 : Int)).toNat = 0 from rfl] at hx242_1)
              (try rw [show 0 * 3 = 0 from rfl] at hx242_1)
              (try rw [Addr.add_zero'] at hx242_1)
              (try rw [show ((0 : Int)).toNat = 0 from rfl] at hx242_2)
              (try rw [show 0 * 3 = 0 from rfl] at hx242_2)
              (try rw [Addr.add_zero'] at hx242_2)
              have HR242_1 := Aside0.mk hi242_1
              have HC242_1 := Aside0.mk hl242_1
              clear hi242_1 hl242_1
              have HR242_2 := Aside0.mk hi242_2
              have HC242_2 := Aside0.mk hl242_2
              clear hi242_2 hl242_2
              replace p242 := eq_true p242
              replace q242 := eq_true q242
              have p243 : 0 ≤ (x38_2 : Int) := of_decide_eq_true (by first | (with_reducible assumption) | assumption)
              have q243 : x38_2 < (((rd_T57 l1 0).f1).length : Int) := of_decide_eq_true (by first | (with_reducible assumption) | assumption)
              obtain ⟨ad243, e243, hx243_0⟩ := Kd.at_int HR242_1.out x38_2 p243 q243
              cases e243
              replace p243 := eq_true p243
              replace q243 := eq_true q243
              go_wp2
              repeat (go_quiet (fail); try go_wp2)
              go_roundg k2
              case measure => have := HJ2.out; have := HK2.out; omega
              case rel => exact ⟨(wrap64 (x38_2 + 1)), (by first | rfl | (simp; done) | (simp [*]; done)), H', ⟨by have := HJ2.out; have := HK2.out; omega⟩, by repeat (first | exact Drawn0.refl _ | apply Drawn0.step)⟩
             ·rw [if_neg c19] at H
              have c19b0 : ((rd ((rd_T57 l0 0).f1) x38_2) == (rd ((rd_T57 l1 0).f1) x38_2)) = false := beq_eq_false_iff_ne.mpr c19
              have c19b1 : ((rd ((rd_T57 l0 0).f1) x38_2) != (rd ((rd_T57 l1 0).f1) x38_2)) = true := bne_iff_ne.mpr c19
              obtain rfl := Option.some.inj H
              have p240 : 0 ≤ (0 : Int) := (by omega)
              have q240 : 0 < (l0.length : Int) := of_decide_eq_true (by first | (with_reducible assumption) | assumption)
              obtain ⟨ad240, A240_1, c240_1, A240_2, c240_2, e240, hx240_0, hx240_1, hx240_2, hl240_1, hi240_1, hl240_2, hi240_2⟩ := at_T57 (Kd.PC_C HR0.out) 0 p240 q240
              obtain rfl : ad239 = ad240 := (by injection e240)
              have qi240 : (0 < l0.length) = True := eq_true (by omega)
              (try rw [show ((0 : Int)).toNat = 0 from rfl] at hx240_0)
              (try rw [show 0 * 3 = 0 from rfl] at hx240_0)
              (try rw [Addr.add_zero'] at hx240_0)
              (try rw [show ((0 : Int)).toNat = 0 from rfl] at hx240_1)
              (try rw [show 0 * 3 = 0 from rfl] at hx240_1)
              (try rw [Addr.add_zero'] at hx240_1)
              (try rw [show ((0 : Int)).toNat = 0 from rfl] at hx240_2)
              (try rw [show 0 * 3 = 0 from rfl] at hx240_2)
              (try rw [Addr.add_zero'] at hx240_2)
              have HR240_1 := Aside0.mk hi240_1
              have HC240_1 := Aside0.mk hl240_1
              clear hi240_1 hl240_1
              have HR240_2 := Aside0.mk hi240_2
              have HC240_2 := Aside0.mk hl240_2
              clear hi240_2 hl240_2
              replace p240 := eq_true p240
              replace q240 := eq_true q240
              have p241 : 0 ≤ (x38_2 : Int) := of_decide_eq_true (by first | (with_reducible assumption) | assumption)
              have q241 : x38_2 < (((rd_T57 l0 0).f1).length : Int) := of_decide_eq_true (by first | (with_reducible assumption) | assumption)
              obtain ⟨ad241, e241, hx241_0⟩ := Kd.at_int HR240_1.out x38_2 p241 q241
              cases e241
              replace p241 := eq_true p241
              replace q241 := eq_true q241
              have p242 : 0 ≤ (0 : Int) := (by omega)
              have q242 : 0 < (l1.length : Int) := of_decide_eq_true (by first | (with_reducible assumption) | assumption)
              obtain ⟨ad242, A242_1, c242_1, A242_2, c242_2, e242, hx242_0, hx242_1, hx242_2, hl242_1, hi242_1, hl242_2, hi242_2⟩ := at_T57 (Kd.PC_C HR1.out) 0 p242 q242
              cases e242
              have qi242 : (0 < l1.length) = True := eq_true (by omega)
              (try rw [show ((0 : Int)).toNat = 0 from rfl] at hx242_0)
              (try rw [show 0 * 3 = 0 from rfl] at hx242_0)
              (try rw [Addr.add_zero'] at hx242_0)
              (try rw [show ((0 : Int)).toNat = 0 from rfl] at hx242_1)
              (try rw [show 0 * 3 = 0 from rfl] at hx242_1)
              (try rw [Addr.add_zero'] at hx242_1)
              (try rw [show ((0 : Int)).toNat = 0 from rfl] at hx242_2)
              (try rw [show 0 * 3 = 0 from rfl] at hx242_2)
              (try rw [Addr.add_zero'] at hx242_2)
              have HR242_1 := Aside0.mk hi242_1
              have HC242_1 := Aside0.mk hl242_1
              clear hi242_1 hl242_1
              have HR242_2 := Aside0.mk hi242_2
              have HC242_2 := Aside0.mk hl242_2
              clear hi242_2 hl242_2
              replace p242 := eq_true p242
              replace q242 := eq_true q242
              have p243 : 0 ≤ (x38_2 : Int) := of_decide_eq_true (by first | (with_reducible assumption) | assumption)
              have q243 : x38_2 < (((rd_T57 l1 0).f1).length : Int) := of_decide_eq_true (by first | (with_reducible assumption) | assumption)
              obtain ⟨ad243, e243, hx243_0⟩ := Kd.at_int HR242_1.out x38_2 p243 q243
              cases e243
              replace p243 := eq_true p243
              replace q243 := eq_true q243
              go_wp2
              repeat (go_quiet (fail); try go_wp2)
              go_ret
              exact ⟨by first | rfl | (simp; done) | (simp [*]; done), by repeat (first | exact Drawn0.refl _ | apply Drawn0.step)⟩
            ·rw [if_neg c18] at H
             exact absurd H (by simp)
           ·rw [if_neg c17] at H
            exact absurd H (by simp)
          ·rw [if_neg c16] at H
           exact absurd H (by simp)
         ·rw [if_neg c15] at H
          exact absurd H (by simp)
        ·rw [if_neg c14] at H
         exact absurd H (by simp)
       ·rw [if_neg c13] at H
        have c13b0 : decide (x38_2 < (((rd_T57 l0 0).f1).length : Int)) = false := decide_eq_false c13
        clear c13
        by_cases c20 : 0 < (l0.length : Int)
        ·rw [if_pos c20] at H
         have c20b0 : decide (0 < (l0.length : Int)) = true := decide_eq_true c20
         have c20b1 : decide (0 < l0.length) = true := decide_eq_true (by omega)
         clear c20
         have H' := Aside0.mk H
         clear H
         have p244 : 0 ≤ (0 : Int) := (by omega)
         have q244 : 0 < (l0.length : Int) := of_decide_eq_true (by first | (with_reducible assumption) | assumption)
         obtain ⟨ad244, A244_1, c244_1, A244_2, c244_2, e244, hx244_0, hx244_1, hx244_2, hl244_1, hi244_1, hl244_2, hi244_2⟩ := at_T57 (Kd.PC_C HR0.out) 0 p244 q244
         obtain rfl : ad239 = ad244 := (by injection e244)
         have qi244 : (0 < l0.length) = True := eq_true (by omega)
         (try rw [show ((0 : Int)).toNat = 0 from rfl] at hx244_0)
         (try rw [show 0 * 3 = 0 from rfl] at hx244_0)
         (try rw [Addr.add_zero'] at hx244_0)
         (try rw [show ((0 : Int)).toNat = 0 from rfl] at hx244_1)
         (try rw [show 0 * 3 = 0 from rfl] at hx244_1)
         (try rw [Addr.add_zero'] at hx244_1)
         (try rw [show ((0 : Int)).toNat = 0 from rfl] at hx244_2)
         (try rw [show 0 * 3 = 0 from rfl] at hx244_2)
         (try rw [Addr.add_zero'] at hx244_2)
         have HR244_1 := Aside0.mk hi244_1
         have HC244_1 := Aside0.mk hl244_1
         clear hi244_1 hl244_1
         have HR244_2 := Aside0.mk hi244_2
         have HC244_2 := Aside0.mk hl244_2
         clear hi244_2 hl244_2
         replace p244 := eq_true p244
         replace q244 := eq_true q244
         go_wp2
         repeat (go_quiet (fail); try go_wp2)
         go_loopg [62] k2 (fun kq v62 w' => ∃ (x62_3 : Int), v62 = .int .i64 x62_3 ∧ Aside0 (trie_Trie_Same.l1 kq l0 l1 (((rd_T57 l0 0).f2).length : Int) x62_3 = some r) ∧ Aside0 (kq ≤ k2) ∧ Drawn0 w w')
         case atStart => exact ⟨(0), (by first | rfl | (simp; done) | (simp [*]; done)), H', ⟨Nat.le_refl _⟩, by repeat (first | exact Drawn0.refl _ | apply Drawn0.step)⟩
         case round =>
          clear H'
          try clear c1
          try clear c2
          try clear p2
          try clear q2
          try clear hx2
          try clear qi2
          try clear c4
          try clear c4b0
          try clear c6
          try clear c6b0
          try clear c6b1
          try clear p6
          try clear c7
          try clear c7b0
          try clear c7b1
          try clear c8
          try clear c8b0
          try clear c8b1
          try clear c11
          try clear c12
          try clear c12b0
          try clear c12b1
          try clear c13
          try clear c13b0
          try clear c14
          try clear c14b0
          try clear c14b1
          try clear c15
          try clear c15b0
          try clear c16
          try clear c16b0
          try clear c17
          try clear c17b0
          try clear c17b1
          try clear c18
          try clear c18b0
          try clear c19
          try clear c19b0
          try clear c19b1
          try clear c20
          try clear c20b0
          try clear c20b1
          try clear hx235_0
          try clear hx235_1
          try clear hx235_2
          try clear hx236_0
          try clear hx236_1
          try clear hx236_2
          try clear hx237_0
          try clear hx237_1
          try clear hx237_2
          try clear hx238_0
          try clear hx238_1
          try clear hx238_2
          try clear hx239_0
          try clear hx239_1
          try clear hx239_2
          try clear hx240_0
          try clear hx240_1
          try clear hx240_2
          try clear hx241_0
          try clear hx242_0
          try clear hx242_1
          try clear hx242_2
          try clear hx243_0
          try clear hx244_0
          try clear hx244_1
          try clear hx244_2
          try clear p2
          try clear p235
          try clear p236
          try clear p237
          try clear p238
          try clear p239
          try clear p240
          try clear p241
          try clear p242
          try clear p243
          try clear p244
          try clear q2
          try clear q235
          try clear q236
          try clear q237
          try clear q238
          try clear q239
          try clear q240
          try clear q241
          try clear q242
          try clear q243
          try clear q244
          obtain ⟨x62_3, rfl, HA, HK3, ⟨m3, rfl⟩⟩ := hrel
          cases gk with
          | zero => exact absurd HA.out (by simp [trie_Trie_Same.l1])
          | succ k3 =>
           have H := HA.out
           clear HA
           simp only [trie_Trie_Same.l1] at H
           by_cases c21 : x62_3 < (((rd_T57 l0 0).f2).length : Int)
           ·rw [if_pos c21] at H
            have c21b0 : decide (x62_3 < (((rd_T57 l0 0).f2).length : Int)) = true := decide_eq_true c21
            clear c21
            by_cases c22 : 0 < (l0.length : Int)
            ·rw [if_pos c22] at H
             have c22b0 : decide (0 < (l0.length : Int)) = true := decide_eq_true c22
             have c22b1 : decide (0 < l0.length) = true := decide_eq_true (by omega)
             clear c22
             by_cases c23 : 0 ≤ x62_3
             ·rw [if_pos c23] at H
              have c23b0 : decide (0 ≤ x62_3) = true := decide_eq_true c23
              clear c23
              by_cases c24 : x62_3 < (((rd_T57 l0 0).f2).length : Int)
              ·rw [if_pos c24] at H
               have c24b0 : decide (x62_3 < (((rd_T57 l0 0).f2).length : Int)) = true := decide_eq_true c24
               clear c24
               by_cases c25 : 0 < (l1.length : Int)
               ·rw [if_pos c25] at H
                have c25b0 : decide (0 < (l1.length : Int)) = true := decide_eq_true c25
                have c25b1 : decide (0 < l1.length) = true := decide_eq_true (by omega)
                clear c25
                by_cases c26 : x62_3 < (((rd_T57 l1 0).f2).length : Int)
                ·rw [if_pos c26] at H
                 have c26b0 : decide (x62_3 < (((rd_T57 l1 0).f2).length : Int)) = true := decide_eq_true c26
                 clear c26
                 by_cases c27 : ((arrEq 64 (rd_L4 ((rd_T57 l0 0).f2) x62_3) (rd_L4 ((rd_T57 l1 0).f2) x62_3)) = true)
                 ·rw [if_pos c27] at H
                  have c27b0 : (arrEq 64 (rd_L4 ((rd_T57 l0 0).f2) x62_3) (rd_L4 ((rd_T57 l1 0).f2) x62_3)) = true := c27
                  clear c27
                  have H' := Aside0.mk H
                  clear H
                  have p245 : 0 ≤ (0 : Int) := (by omega)
                  have q245 : 0 < (l0.length : Int) := of_decide_eq_true (by first | (with_reducible assumption) | assumption)
                  obtain ⟨ad245, A245_1, c245_1, A245_2, c245_2, e245, hx245_0, hx245_1, hx245_2, hl245_1, hi245_1, hl245_2, hi245_2⟩ := at_T57 (Kd.PC_C HR0.out) 0 p245 q245
                  obtain rfl : ad239 = ad245 := (by injection e245)
                  have qi245 : (0 < l0.length) = True := eq_true (by omega)
                  (try rw [show ((0 : Int)).toNat = 0 from rfl] at hx245_0)
                  (try rw [show 0 * 3 = 0 from rfl] at hx245_0)
                  (try rw [Addr.add_zero'] at hx245_0)
                  (try rw [show ((0 : Int)).toNat = 0 from rfl] at hx245_1)
                  (try rw [show 0 * 3 = 0 from rfl] at hx245_1)
                  (try rw [Addr.add_zero'] at hx245_1)
                  (try rw [show ((0 : Int)).toNat = 0 from rfl] at hx245_2)
                  (try rw [show 0 * 3 = 0 from rfl] at hx245_2)
                  (try rw [Addr.add_zero'] at hx245_2)
                  have HR245_1 := Aside0.mk hi245_1
                  have HC245_1 := Aside0.mk hl245_1
                  clear hi245_1 hl245_1
                  have HR245_2 := Aside0.mk hi245_2
                  have HC245_2 := Aside0.mk hl245_2
                  clear hi245_2 hl245_2
                  replace p245 := eq_true p245
                  replace q245 := eq_true q245
                  have p246 : 0 ≤ (x62_3 : Int) := of_decide_eq_true (by first | (with_reducible assumption) | assumption)
                  have q246 : x62_3 < (((rd_T57 l0 0).f2).length : Int) := of_decide_eq_true (by first | (with_reducible assumption) | assumption)
                  obtain ⟨ad246, e246, hx246_0⟩ := at_L4 HR245_2.out x62_3 p246 q246
                  cases e246
                  replace p246 := eq_true p246
                  replace q246 := eq_true q246
                  have p247 : 0 ≤ (0 : Int) := (by omega)
                  have q247 : 0 < (l1.length : Int) := of_decide_eq_true (by first | (with_reducible assumption) | assumption)
                  obtain ⟨ad247, A247_1, c247_1, A247_2, c247_2, e247, hx247_0, hx247_1, hx247_2, hl247_1, hi247_1, hl247_2, hi247_2⟩ := at_T57 (Kd.PC_C HR1.out) 0 p247 q247
                  cases e247
                  have qi247 : (0 < l1.length) = True := eq_true (by omega)
                  (try rw [show ((0 : Int)).toNat = 0 from rfl] at hx247_0)
                  (try rw [show 0 * 3 = 0 from rfl] at hx247_0)
                  (try rw [Addr.add_zero'] at hx247_0)
                  (try rw [show ((0 : Int)).toNat = 0 from rfl] at hx247_1)
                  (try rw [show 0 * 3 = 0 from rfl] at hx247_1)
                  (try rw [Addr.add_zero'] at hx247_1)
                  (try rw [show ((0 : Int)).toNat = 0 from rfl] at hx247_2)
                  (try rw [show 0 * 3 = 0 from rfl] at hx247_2)
                  (try rw [Addr.add_zero'] at hx247_2)
                  have HR247_1 := Aside0.mk hi247_1
                  have HC247_1 := Aside0.mk hl247_1
                  clear hi247_1 hl247_1
                  have HR247_2 := Aside0.mk hi247_2
                  have HC247_2 := Aside0.mk hl247_2
                  clear hi247_2 hl247_2
                  replace p247 := eq_true p247
                  replace q247 := eq_true q247
                  have p248 : 0 ≤ (x62_3 : Int) := of_decide_eq_true (by first | (with_reducible assumption) | assumption)
                  have q248 : x62_3 < (((rd_T57 l1 0).f2).length : Int) := of_decide_eq_true (by first | (with_reducible assumption) | assumption)
                  obtain ⟨ad248, e248, hx248_0⟩ := at_L4 HR247_2.out x62_3 p248 q248
                  cases e248
                  replace p248 := eq_true p248
                  replace q248 := eq_true q248
                  go_wp2_with (first | ((refine wpList_load_arr rfl _ rfl rfl hx246_0 Try.underlying50 (by kernel_rfl) ?_); (try simp only [Act.put, List.setIfInBounds_toArray, List.set_cons_zero, List.set_cons_succ])) | ((refine wpList_load_arr rfl _ rfl rfl hx248_0 Try.underlying50 (by kernel_rfl) ?_); (try simp only [Act.put, List.setIfInBounds_toArray, List.set_cons_zero, List.set_cons_succ])))
                  repeat ((refine wp_region_quiet_lit (by kernel_rfl) (by kernel_rfl) ?_; (repeat (first | (first | (refine wpQuiet_load_arr rfl _ rfl rfl hx246_0 Try.underlying50 (by kernel_rfl) ?_; simp only [Act.put, List.setIfInBounds_toArray, List.set_cons_zero, List.set_cons_succ]) | (refine wpQuiet_load_arr rfl _ rfl rfl hx248_0 Try.underlying50 (by kernel_rfl) ?_; simp only [Act.put, List.setIfInBounds_toArray, List.set_cons_zero, List.set_cons_succ])) | go_big_quiet_step (fail) | quiet_step (fail))); refine wpQuiet_nil ?_; intro _ hwq_; obtain ⟨nq, hwr_⟩ := hwq_; subst hwr_); try go_wp2_with (first | ((refine wpList_load_arr rfl _ rfl rfl hx246_0 Try.underlying50 (by kernel_rfl) ?_); (try simp only [Act.put, List.setIfInBounds_toArray, List.set_cons_zero, List.set_cons_succ])) | ((refine wpList_load_arr rfl _ rfl rfl hx248_0 Try.underlying50 (by kernel_rfl) ?_); (try simp only [Act.put, List.setIfInBounds_toArray, List.set_cons_zero, List.set_cons_succ]))))
                  go_roundg k3
                  case measure => have := HJ2.out; have := HK2.out; have := HK3.out; omega
                  case rel => exact ⟨(wrap64 (x62_3 + 1)), (by first | rfl | (simp; done) | (simp [*]; done)), H', ⟨by have := HJ2.out; have := HK2.out; have := HK3.out; omega⟩, by repeat (first | exact Drawn0.refl _ | apply Drawn0.step)⟩
                 ·rw [if_neg c27] at H
                  have c27b0 : (arrEq 64 (rd_L4 ((rd_T57 l0 0).f2) x62_3) (rd_L4 ((rd_T57 l1 0).f2) x62_3)) = false := by simpa using c27
                  clear c27
                  obtain rfl := Option.some.inj H
                  have p245 : 0 ≤ (0 : Int) := (by omega)
                  have q245 : 0 < (l0.length : Int) := of_decide_eq_true (by first | (with_reducible assumption) | assumption)
                  obtain ⟨ad245, A245_1, c245_1, A245_2, c245_2, e245, hx245_0, hx245_1, hx245_2, hl245_1, hi245_1, hl245_2, hi245_2⟩ := at_T57 (Kd.PC_C HR0.out) 0 p245 q245
                  obtain rfl : ad239 = ad245 := (by injection e245)
                  have qi245 : (0 < l0.length) = True := eq_true (by omega)
                  (try rw [show ((0 : Int)).toNat = 0 from rfl] at hx245_0)
                  (try rw [show 0 * 3 = 0 from rfl] at hx245_0)
                  (try rw [Addr.add_zero'] at hx245_0)
                  (try rw [show ((0 : Int)).toNat = 0 from rfl] at hx245_1)
                  (try rw [show 0 * 3 = 0 from rfl] at hx245_1)
                  (try rw [Addr.add_zero'] at hx245_1)
                  (try rw [show ((0 : Int)).toNat = 0 from rfl] at hx245_2)
                  (try rw [show 0 * 3 = 0 from rfl] at hx245_2)
                  (try rw [Addr.add_zero'] at hx245_2)
                  have HR245_1 := Aside0.mk hi245_1
                  have HC245_1 := Aside0.mk hl245_1
                  clear hi245_1 hl245_1
                  have HR245_2 := Aside0.mk hi245_2
                  have HC245_2 := Aside0.mk hl245_2
                  clear hi245_2 hl245_2
                  replace p245 := eq_true p245
                  replace q245 := eq_true q245
                  have p246 : 0 ≤ (x62_3 : Int) := of_decide_eq_true (by first | (with_reducible assumption) | assumption)
                  have q246 : x62_3 < (((rd_T57 l0 0).f2).length : Int) := of_decide_eq_true (by first | (with_reducible assumption) | assumption)
                  obtain ⟨ad246, e246, hx246_0⟩ := at_L4 HR245_2.out x62_3 p246 q246
                  cases e246
                  replace p246 := eq_true p246
                  replace q246 := eq_true q246
                  have p247 : 0 ≤ (0 : Int) := (by omega)
                  have q247 : 0 < (l1.length : Int) := of_decide_eq_true (by first | (with_reducible assumption) | assumption)
                  obtain ⟨ad247, A247_1, c247_1, A247_2, c247_2, e247, hx247_0, hx247_1, hx247_2, hl247_1, hi247_1, hl247_2, hi247_2⟩ := at_T57 (Kd.PC_C HR1.out) 0 p247 q247
                  cases e247
                  have qi247 : (0 < l1.length) = True := eq_true (by omega)
                  (try rw [show ((0 : Int)).toNat = 0 from rfl] at hx247_0)
                  (try rw [show 0 * 3 = 0 from rfl] at hx247_0)
                  (try rw [Addr.add_zero'] at hx247_0)
                  (try rw [show ((0 : Int)).toNat = 0 from rfl] at hx247_1)
                  (try rw [show 0 * 3 = 0 from rfl] at hx247_1)
                  (try rw [Addr.add_zero'] at hx247_1)
                  (try rw [show ((0 : Int)).toNat = 0 from rfl] at hx247_2)
                  (try rw [show 0 * 3 = 0 from rfl] at hx247_2)
                  (try rw [Addr.add_zero'] at hx247_2)
                  have HR247_1 := Aside0.mk hi247_1
                  have HC247_1 := Aside0.mk hl247_1
                  clear hi247_1 hl247_1
                  have HR247_2 := Aside0.mk hi247_2
                  have HC247_2 := Aside0.mk hl247_2
                  clear hi247_2 hl247_2
                  replace p247 := eq_true p247
                  replace q247 := eq_true q247
                  have p248 : 0 ≤ (x62_3 : Int) := of_decide_eq_true (by first | (with_reducible assumption) | assumption)
                  have q248 : x62_3 < (((rd_T57 l1 0).f2).length : Int) := of_decide_eq_true (by first | (with_reducible assumption) | assumption)
                  obtain ⟨ad248, e248, hx248_0⟩ := at_L4 HR247_2.out x62_3 p248 q248
                  cases e248
                  replace p248 := eq_true p248
                  replace q248 := eq_true q248
                  go_wp2_with (first | ((refine wpList_load_arr rfl _ rfl rfl hx246_0 Try.underlying50 (by kernel_rfl) ?_); (try simp only [Act.put, List.setIfInBounds_toArray, List.set_cons_zero, List.set_cons_succ])) | ((refine wpList_load_arr rfl _ rfl rfl hx248_0 Try.underlying50 (by kernel_rfl) ?_); (try simp only [Act.put, List.setIfInBounds_toArray, List.set_cons_zero, List.set_cons_succ])))
                  repeat ((refine wp_region_quiet_lit (by kernel_rfl) (by kernel_rfl) ?_; (repeat (first | (first | (refine wpQuiet_load_arr rfl _ rfl rfl hx246_0 Try.underlying50 (by kernel_rfl) ?_; simp only [Act.put, List.setIfInBounds_toArray, List.set_cons_zero, List.set_cons_succ]) | (refine wpQuiet_load_arr rfl _ rfl rfl hx248_0 Try.underlying50 (by kernel_rfl) ?_; simp only [Act.put, List.setIfInBounds_toArray, List.set_cons_zero, List.set_cons_succ]) | (refine wpQuiet_load_arr rfl _ rfl rfl hx246_0 Try.underlying50 (by kernel_rfl) ?_; simp only [Act.put, List.setIfInBounds_toArray, List.set_cons_zero, List.set_cons_succ]) | (refine wpQuiet_load_arr rfl _ rfl rfl hx248_0 Try.underlying50 (by kernel_rfl) ?_; simp only [Act.put, List.setIfInBounds_toArray, List.set_cons_zero, List.set_cons_succ])) | go_big_quiet_step (fail) | quiet_step (fail))); refine wpQuiet_nil ?_; intro _ hwq_; obtain ⟨nq, hwr_⟩ := hwq_; subst hwr_); try go_wp2_with (first | ((refine wpList_load_arr rfl _ rfl rfl hx246_0 Try.underlying50 (by kernel_rfl) ?_); (try simp only [Act.put, List.setIfInBounds_toArray, List.set_cons_zero, List.set_cons_succ])) | ((refine wpList_load_arr rfl _ rfl rfl hx248_0 Try.underlying50 (by kernel_rfl) ?_); (try simp only [Act.put, List.setIfInBounds_toArray, List.set_cons_zero, List.set_cons_succ]))))
                  go_ret
                  exact ⟨by first | rfl | (simp; done) | (simp [*]; done), by repeat (first | exact Drawn0.refl _ | apply Drawn0.step)⟩
                ·rw [if_neg c26] at H
                 exact absurd H (by simp)
               ·rw [if_neg c25] at H
                exact absurd H (by simp)
              ·rw [if_neg c24] at H
               exact absurd H (by simp)
             ·rw [if_neg c23] at H
              exact absurd H (by simp)
            ·rw [if_neg c22] at H
             exact absurd H (by simp)
           ·rw [if_neg c21] at H
            have c21b0 : decide (x62_3 < (((rd_T57 l0 0).f2).length : Int)) = false := decide_eq_false c21
            clear c21
            obtain rfl := Option.some.inj H
            go_wp2
            repeat ((refine wp_region_quiet_lit (by kernel_rfl) (by kernel_rfl) ?_; (repeat (first | (first | (refine wpQuiet_load_arr rfl _ rfl rfl hx246_0 Try.underlying50 (by kernel_rfl) ?_; simp only [Act.put, List.setIfInBounds_toArray, List.set_cons_zero, List.set_cons_succ]) | (refine wpQuiet_load_arr rfl _ rfl rfl hx248_0 Try.underlying50 (by kernel_rfl) ?_; simp only [Act.put, List.setIfInBounds_toArray, List.set_cons_zero, List.set_cons_succ]) | (refine wpQuiet_load_arr rfl _ rfl rfl hx246_0 Try.underlying50 (by kernel_rfl) ?_; simp only [Act.put, List.setIfInBounds_toArray, List.set_cons_zero, List.set_cons_succ]) | (refine wpQuiet_load_arr rfl _ rfl rfl hx248_0 Try.underlying50 (by kernel_rfl) ?_; simp only [Act.put, List.setIfInBounds_toArray, List.set_cons_zero, List.set_cons_succ])) | go_big_quiet_step (fail) | quiet_step (fail))); refine wpQuiet_nil ?_; intro _ hwq_; obtain ⟨nq, hwr_⟩ := hwq_; subst hwr_); try go_wp2_with (fail))
            go_ret
            exact ⟨by first | rfl | (simp; done) | (simp [*]; done), by repeat (first | exact Drawn0.refl _ | apply Drawn0.step)⟩
        ·rw [if_neg c20] at H
         exact absurd H (by simp)
    ·rw [if_neg c12] at H
     exact absurd H (by simp)

end Go.Proofs.Ytiaodapgankjnaa.Q
