-- Written by wip/tools/pr.py of this session over the kit's print (widened); the words are the kit's print's own. Not trusted: Lean checks it.
import Derived.Test.YtiaodapgankjnaaQx0
import Derived.Test.YtiaodapgankjnaaQx1
import Derived.Test.YtiaodapgankjnaaQx4
namespace Go.Proofs.Ytiaodapgankjnaa.Q
open Go.RowKit Go.Proofs.YtiaodapgankjnaaW.PrintWords Go.Proofs.YtiaodapgankjnaaW.PrintLast Go.Proofs.YtiaodapgankjnaaW.PrintMore
attribute [local go_sem] max2_int min2_int max_two min_two max_three min_three max_four min_four   -- for this text's walks alone
set_option linter.unusedVariables false
set_option linter.unusedSimpArgs false

attribute [local go_sem high] eqA35
/-! ### trie_Trie_Get: function 13 -/
def trie_Trie_Get.f (l0 : List (S57)) (a1 : Int) : Option (Int) := if a1 < 0 then (if 0 < (l0.length : Int) then (some ((rd_T57 l0 0).f0)) else (none)) else (if a1 > 1114111 then (if 0 < (l0.length : Int) then (some ((rd_T57 l0 0).f0)) else (none)) else (if 0 < (l0.length : Int) then (if 0 ≤ (wrap64 (Int.tdiv a1 64)) then (if (wrap64 (Int.tdiv a1 64)) < (((rd_T57 l0 0).f1).length : Int) then (if 0 ≤ (rd ((rd_T57 l0 0).f1) (wrap64 (Int.tdiv a1 64))) then (if (rd ((rd_T57 l0 0).f1) (wrap64 (Int.tdiv a1 64))) < (((rd_T57 l0 0).f2).length : Int) then (if 0 ≤ (Int.tmod a1 64) then (if (Int.tmod a1 64) < 64 then (some (wrap64 (rd (rd_L4 ((rd_T57 l0 0).f2) (rd ((rd_T57 l0 0).f1) (wrap64 (Int.tdiv a1 64)))) (Int.tmod a1 64)))) else (none)) else (none)) else (none)) else (none)) else (none)) else (none)) else (none)))
set_option maxHeartbeats 8000000 in
set_option maxRecDepth 100000 in
theorem trie_Trie_Get.calls (A0 : Option Addr) (l0 : List (S57)) (a1 : Int) (r : Int) (w : World) (hr0 : Kd.PC k57 w A0 l0.length l0) (h : trie_Trie_Get.f l0 a1 = some r) :
  Calls Try.prog 13 #[.pointer A0, .int .i64 a1] w fun e w' => e = .returned (.int .i64 r) ∧ Drawn0 w w' := by
 have HR0 := Aside0.mk hr0
 clear hr0
 have H : (if a1 < 0 then (if 0 < (l0.length : Int) then (some ((rd_T57 l0 0).f0)) else (none)) else (if a1 > 1114111 then (if 0 < (l0.length : Int) then (some ((rd_T57 l0 0).f0)) else (none)) else (if 0 < (l0.length : Int) then (if 0 ≤ (wrap64 (Int.tdiv a1 64)) then (if (wrap64 (Int.tdiv a1 64)) < (((rd_T57 l0 0).f1).length : Int) then (if 0 ≤ (rd ((rd_T57 l0 0).f1) (wrap64 (Int.tdiv a1 64))) then (if (rd ((rd_T57 l0 0).f1) (wrap64 (Int.tdiv a1 64))) < (((rd_T57 l0 0).f2).length : Int) then (if 0 ≤ (Int.tmod a1 64) then (if (Int.tmod a1 64) < 64 then (some (wrap64 (rd (rd_L4 ((rd_T57 l0 0).f2) (rd ((rd_T57 l0 0).f1) (wrap64 (Int.tdiv a1 64)))) (Int.tmod a1 64)))) else (none)) else (none)) else (none)) else (none)) else (none)) else (none)) else (none)))) = some r := h
 clear h
 by_cases c3 : a1 < 0
 ·rw [if_pos c3] at H
  have c3b0 : decide (a1 < 0) = true := decide_eq_true c3
  clear c3
  by_cases c4 : 0 < (l0.length : Int)
  ·rw [if_pos c4] at H
   have c4b0 : decide (0 < (l0.length : Int)) = true := decide_eq_true c4
   have c4b1 : decide (0 < l0.length) = true := decide_eq_true (by omega)
   clear c4
   obtain rfl := Option.some.inj H
   have p121 : 0 ≤ (0 : Int) := (by omega)
   have q121 : 0 < (l0.length : Int) := of_decide_eq_true (by first | (with_reducible assumption) | assumption)
   obtain ⟨ad121, A121_1, c121_1, A121_2, c121_2, e121, hx121_0, hx121_1, hx121_2, hl121_1, hi121_1, hl121_2, hi121_2⟩ := at_T57 (Kd.PC_C HR0.out) 0 p121 q121
   cases e121
   have qi121 : (0 < l0.length) = True := eq_true (by omega)
   (try rw [show ((0 : Int)).toNat = 0 from rfl] at hx121_0)
   (try rw [show 0 * 3 = 0 from rfl] at hx121_0)
   (try rw [Addr.add_zero'] at hx121_0)
   (try rw [show ((0 : Int)).toNat = 0 from rfl] at hx121_1)
   (try rw [show 0 * 3 = 0 from rfl] at hx121_1)
   (try rw [Addr.add_zero'] at hx121_1)
   (try rw [show ((0 : Int)).toNat = 0 from rfl] at hx121_2)
   (try rw [show 0 * 3 = 0 from rfl] at hx121_2)
   (try rw [Addr.add_zero'] at hx121_2)
   have HR121_1 := Aside0.mk hi121_1
   have HC121_1 := Aside0.mk hl121_1
   clear hi121_1 hl121_1
   have HR121_2 := Aside0.mk hi121_2
   have HC121_2 := Aside0.mk hl121_2
   clear hi121_2 hl121_2
   replace p121 := eq_true p121
   replace q121 := eq_true q121
   go_enter Try.func13, Try.ntmps13
   go_wp2
   repeat (go_quiet (fail); try go_wp2)
   go_ret
   exact ⟨by first | rfl | (simp; done) | (simp [*]; done), by repeat (first | exact Drawn0.refl _ | apply Drawn0.step)⟩
  ·rw [if_neg c4] at H
   exact absurd H (by simp)
 ·rw [if_neg c3] at H
  have c3b0 : decide (a1 < 0) = false := decide_eq_false c3
  clear c3
  by_cases c5 : a1 > 1114111
  ·rw [if_pos c5] at H
   have c5b0 : decide (1114111 < a1) = true := decide_eq_true c5
   clear c5
   by_cases c6 : 0 < (l0.length : Int)
   ·rw [if_pos c6] at H
    have c6b0 : decide (0 < (l0.length : Int)) = true := decide_eq_true c6
    have c6b1 : decide (0 < l0.length) = true := decide_eq_true (by omega)
    clear c6
    obtain rfl := Option.some.inj H
    have p122 : 0 ≤ (0 : Int) := (by omega)
    have q122 : 0 < (l0.length : Int) := of_decide_eq_true (by first | (with_reducible assumption) | assumption)
    obtain ⟨ad122, A122_1, c122_1, A122_2, c122_2, e122, hx122_0, hx122_1, hx122_2, hl122_1, hi122_1, hl122_2, hi122_2⟩ := at_T57 (Kd.PC_C HR0.out) 0 p122 q122
    cases e122
    have qi122 : (0 < l0.length) = True := eq_true (by omega)
    (try rw [show ((0 : Int)).toNat = 0 from rfl] at hx122_0)
    (try rw [show 0 * 3 = 0 from rfl] at hx122_0)
    (try rw [Addr.add_zero'] at hx122_0)
    (try rw [show ((0 : Int)).toNat = 0 from rfl] at hx122_1)
    (try rw [show 0 * 3 = 0 from rfl] at hx122_1)
    (try rw [Addr.add_zero'] at hx122_1)
    (try rw [show ((0 : Int)).toNat = 0 from rfl] at hx122_2)
    (try rw [show 0 * 3 = 0 from rfl] at hx122_2)
    (try rw [Addr.add_zero'] at hx122_2)
    have HR122_1 := Aside0.mk hi122_1
    have HC122_1 := Aside0.mk hl122_1
    clear hi122_1 hl122_1
    have HR122_2 := Aside0.mk hi122_2
    have HC122_2 := Aside0.mk hl122_2
    clear hi122_2 hl122_2
    replace p122 := eq_true p122
    replace q122 := eq_true q122
    go_enter Try.func13, Try.ntmps13
    go_wp2
    repeat (go_quiet (fail); try go_wp2)
    go_ret
    exact ⟨by first | rfl | (simp; done) | (simp [*]; done), by repeat (first | exact Drawn0.refl _ | apply Drawn0.step)⟩
   ·rw [if_neg c6] at H
    exact absurd H (by simp)
  ·rw [if_neg c5] at H
   have c5b0 : decide (1114111 < a1) = false := decide_eq_false c5
   clear c5
   by_cases c7 : 0 < (l0.length : Int)
   ·rw [if_pos c7] at H
    have c7b0 : decide (0 < (l0.length : Int)) = true := decide_eq_true c7
    have c7b1 : decide (0 < l0.length) = true := decide_eq_true (by omega)
    clear c7
    obtain ⟨ji8, hji8⟩ : ∃ j_ : Int, (wrap64 (Int.tdiv a1 64)) = j_ := ⟨_, rfl⟩
    replace H : (if 0 ≤ (ji8) then (if (ji8) < (((rd_T57 l0 0).f1).length : Int) then (if 0 ≤ (rd ((rd_T57 l0 0).f1) (ji8)) then (if (rd ((rd_T57 l0 0).f1) (ji8)) < (((rd_T57 l0 0).f2).length : Int) then (if 0 ≤ (Int.tmod a1 64) then (if (Int.tmod a1 64) < 64 then (some (wrap64 (rd (rd_L4 ((rd_T57 l0 0).f2) (rd ((rd_T57 l0 0).f1) (ji8))) (Int.tmod a1 64)))) else (none)) else (none)) else (none)) else (none)) else (none)) else (none)) = some r := by first | (rw [hji8] at H; exact H) | (simp only [hji8] at H ⊢; exact H)
    have hji8w : (IntKind.i64.wrap (Int.tdiv a1 64)) = ji8 := (i64_w _).trans hji8
    by_cases c9 : 0 ≤ (ji8)
    ·rw [if_pos c9] at H
     have c9b0 : decide (0 ≤ (ji8)) = true := decide_eq_true c9
     clear c9
     by_cases c10 : (ji8) < (((rd_T57 l0 0).f1).length : Int)
     ·rw [if_pos c10] at H
      have c10b0 : decide ((ji8) < (((rd_T57 l0 0).f1).length : Int)) = true := decide_eq_true c10
      clear c10
      by_cases c11 : 0 ≤ (rd ((rd_T57 l0 0).f1) (ji8))
      ·rw [if_pos c11] at H
       have c11b0 : decide (0 ≤ (rd ((rd_T57 l0 0).f1) (ji8))) = true := decide_eq_true c11
       clear c11
       by_cases c12 : (rd ((rd_T57 l0 0).f1) (ji8)) < (((rd_T57 l0 0).f2).length : Int)
       ·rw [if_pos c12] at H
        have c12b0 : decide ((rd ((rd_T57 l0 0).f1) (ji8)) < (((rd_T57 l0 0).f2).length : Int)) = true := decide_eq_true c12
        clear c12
        obtain ⟨ji13, hji13⟩ : ∃ j_ : Int, (Int.tmod a1 64) = j_ := ⟨_, rfl⟩
        replace H : (if 0 ≤ (ji13) then (if (ji13) < 64 then (some (wrap64 (rd (rd_L4 ((rd_T57 l0 0).f2) (rd ((rd_T57 l0 0).f1) (ji8))) (ji13)))) else (none)) else (none)) = some r := by first | (rw [hji13] at H; exact H) | (simp only [hji13] at H ⊢; exact H)
        by_cases c14 : 0 ≤ (ji13)
        ·rw [if_pos c14] at H
         have c14b0 : decide (0 ≤ (ji13)) = true := decide_eq_true c14
         clear c14
         by_cases c15 : (ji13) < 64
         ·rw [if_pos c15] at H
          have c15b0 : decide ((ji13) < 64) = true := decide_eq_true c15
          clear c15
          obtain rfl := Option.some.inj H
          have p123 : 0 ≤ (0 : Int) := (by omega)
          have q123 : 0 < (l0.length : Int) := of_decide_eq_true (by first | (with_reducible assumption) | assumption)
          obtain ⟨ad123, A123_1, c123_1, A123_2, c123_2, e123, hx123_0, hx123_1, hx123_2, hl123_1, hi123_1, hl123_2, hi123_2⟩ := at_T57 (Kd.PC_C HR0.out) 0 p123 q123
          cases e123
          have qi123 : (0 < l0.length) = True := eq_true (by omega)
          (try rw [show ((0 : Int)).toNat = 0 from rfl] at hx123_0)
          (try rw [show 0 * 3 = 0 from rfl] at hx123_0)
          (try rw [Addr.add_zero'] at hx123_0)
          (try rw [show ((0 : Int)).toNat = 0 from rfl] at hx123_1)
          (try rw [show 0 * 3 = 0 from rfl] at hx123_1)
          (try rw [Addr.add_zero'] at hx123_1)
          (try rw [show ((0 : Int)).toNat = 0 from rfl] at hx123_2)
          (try rw [show 0 * 3 = 0 from rfl] at hx123_2)
          (try rw [Addr.add_zero'] at hx123_2)
          have HR123_1 := Aside0.mk hi123_1
          have HC123_1 := Aside0.mk hl123_1
          clear hi123_1 hl123_1
          have HR123_2 := Aside0.mk hi123_2
          have HC123_2 := Aside0.mk hl123_2
          clear hi123_2 hl123_2
          replace p123 := eq_true p123
          replace q123 := eq_true q123
          have p124 : 0 ≤ (0 : Int) := (by omega)
          have q124 : 0 < (l0.length : Int) := of_decide_eq_true (by first | (with_reducible assumption) | assumption)
          obtain ⟨ad124, A124_1, c124_1, A124_2, c124_2, e124, hx124_0, hx124_1, hx124_2, hl124_1, hi124_1, hl124_2, hi124_2⟩ := at_T57 (Kd.PC_C HR0.out) 0 p124 q124
          obtain rfl : ad123 = ad124 := (by injection e124)
          have qi124 : (0 < l0.length) = True := eq_true (by omega)
          (try rw [show ((0 : Int)).toNat = 0 from rfl] at hx124_0)
          (try rw [show 0 * 3 = 0 from rfl] at hx124_0)
          (try rw [Addr.add_zero'] at hx124_0)
          (try rw [show ((0 : Int)).toNat = 0 from rfl] at hx124_1)
          (try rw [show 0 * 3 = 0 from rfl] at hx124_1)
          (try rw [Addr.add_zero'] at hx124_1)
          (try rw [show ((0 : Int)).toNat = 0 from rfl] at hx124_2)
          (try rw [show 0 * 3 = 0 from rfl] at hx124_2)
          (try rw [Addr.add_zero'] at hx124_2)
          have HR124_1 := Aside0.mk hi124_1
          have HC124_1 := Aside0.mk hl124_1
          clear hi124_1 hl124_1
          have HR124_2 := Aside0.mk hi124_2
          have HC124_2 := Aside0.mk hl124_2
          clear hi124_2 hl124_2
          replace p124 := eq_true p124
          replace q124 := eq_true q124
          have ea_ := Option.some.inj (hx123_1.symm.trans hx124_1)
          injection ea_ with ea_ en_ ec_
          subst ea_
          subst ec_
          clear en_
          have ea_ := Option.some.inj (hx123_2.symm.trans hx124_2)
          injection ea_ with ea_ en_ ec_
          subst ea_
          subst ec_
          clear en_
          have p125 : 0 ≤ ((ji8) : Int) := of_decide_eq_true (by first | (with_reducible assumption) | assumption)
          have q125 : (ji8) < (((rd_T57 l0 0).f1).length : Int) := of_decide_eq_true (by first | (with_reducible assumption) | assumption)
          obtain ⟨ad125, e125, hx125_0⟩ := Kd.at_int HR124_1.out (ji8) p125 q125
          cases e125
          replace p125 := eq_true p125
          replace q125 := eq_true q125
          have p126 : 0 ≤ ((rd ((rd_T57 l0 0).f1) (ji8)) : Int) := of_decide_eq_true (by first | (with_reducible assumption) | assumption)
          have q126 : (rd ((rd_T57 l0 0).f1) (ji8)) < (((rd_T57 l0 0).f2).length : Int) := of_decide_eq_true (by first | (with_reducible assumption) | assumption)
          obtain ⟨ad126, e126, hx126_0⟩ := at_L4 HR123_2.out (rd ((rd_T57 l0 0).f1) (ji8)) p126 q126
          cases e126
          replace p126 := eq_true p126
          replace q126 := eq_true q126
          have pa16 : 0 ≤ ((ji13) : Int) := of_decide_eq_true (by first | (with_reducible assumption) | assumption)
          have qa16 : ((ji13) : Int) < 64 := of_decide_eq_true (by first | (with_reducible assumption) | assumption)
          have hxa16 := arr_cell hx126_0 (ji13) pa16 qa16
          replace pa16 := eq_true pa16
          replace qa16 := eq_true qa16
          go_enter Try.func13, Try.ntmps13
          go_wp2
          repeat (go_quiet (fail); try go_wp2)
          go_ret
          exact ⟨by first | rfl | (simp; done) | (simp only [← hji8, ← hji13] <;> (first | rfl | simp)) | (simp [*]; done), by repeat (first | exact Drawn0.refl _ | apply Drawn0.step)⟩
         ·rw [if_neg c15] at H
          exact absurd H (by simp)
        ·rw [if_neg c14] at H
         exact absurd H (by simp)
       ·rw [if_neg c12] at H
        exact absurd H (by simp)
      ·rw [if_neg c11] at H
       exact absurd H (by simp)
     ·rw [if_neg c10] at H
      exact absurd H (by simp)
    ·rw [if_neg c9] at H
     exact absurd H (by simp)
   ·rw [if_neg c7] at H
    exact absurd H (by simp)

/-! ### trie_Trie_Blocks: function 21 -/
def trie_Trie_Blocks.f (l0 : List (S57)) : Option (Int) := if 0 < (l0.length : Int) then (some (((rd_T57 l0 0).f2).length : Int)) else (none)
set_option maxHeartbeats 8000000 in
set_option maxRecDepth 100000 in
theorem trie_Trie_Blocks.calls (A0 : Option Addr) (l0 : List (S57)) (r : Int) (w : World) (hr0 : Kd.PC k57 w A0 l0.length l0) (h : trie_Trie_Blocks.f l0 = some r) :
  Calls Try.prog 21 #[.pointer A0] w fun e w' => e = .returned (.int .i64 r) ∧ Drawn0 w w' := by
 have HR0 := Aside0.mk hr0
 clear hr0
 have H : (if 0 < (l0.length : Int) then (some (((rd_T57 l0 0).f2).length : Int)) else (none)) = some r := h
 clear h
 by_cases c2 : 0 < (l0.length : Int)
 ·rw [if_pos c2] at H
  have c2b0 : decide (0 < (l0.length : Int)) = true := decide_eq_true c2
  have c2b1 : decide (0 < l0.length) = true := decide_eq_true (by omega)
  clear c2
  obtain rfl := Option.some.inj H
  have p127 : 0 ≤ (0 : Int) := (by omega)
  have q127 : 0 < (l0.length : Int) := of_decide_eq_true (by first | (with_reducible assumption) | assumption)
  obtain ⟨ad127, A127_1, c127_1, A127_2, c127_2, e127, hx127_0, hx127_1, hx127_2, hl127_1, hi127_1, hl127_2, hi127_2⟩ := at_T57 (Kd.PC_C HR0.out) 0 p127 q127
  cases e127
  have qi127 : (0 < l0.length) = True := eq_true (by omega)
  (try rw [show ((0 : Int)).toNat = 0 from rfl] at hx127_0)
  (try rw [show 0 * 3 = 0 from rfl] at hx127_0)
  (try rw [Addr.add_zero'] at hx127_0)
  (try rw [show ((0 : Int)).toNat = 0 from rfl] at hx127_1)
  (try rw [show 0 * 3 = 0 from rfl] at hx127_1)
  (try rw [Addr.add_zero'] at hx127_1)
  (try rw [show ((0 : Int)).toNat = 0 from rfl] at hx127_2)
  (try rw [show 0 * 3 = 0 from rfl] at hx127_2)
  (try rw [Addr.add_zero'] at hx127_2)
  have HR127_1 := Aside0.mk hi127_1
  have HC127_1 := Aside0.mk hl127_1
  clear hi127_1 hl127_1
  have HR127_2 := Aside0.mk hi127_2
  have HC127_2 := Aside0.mk hl127_2
  clear hi127_2 hl127_2
  replace p127 := eq_true p127
  replace q127 := eq_true q127
  go_enter Try.func21, Try.ntmps21
  go_wp2
  go_ret
  exact ⟨by first | rfl | (simp; done) | (simp [*]; done), by repeat (first | exact Drawn0.refl _ | apply Drawn0.step)⟩
 ·rw [if_neg c2] at H
  exact absurd H (by simp)

/-! ### endonymlaw4_told: function 11 -/
def endonymlaw4_told.f (k : Nat)  : Option (Bool) := (trie_Build.f k (([(⟨0, 64, 5⟩ : S35), (⟨100, 200, 7⟩ : S35)] : List (S35))) 0).bind fun bt131 => (if bt131.2.2 = 0 then (if ((bt131.1.isEmpty) = true) then (some false) else ((trie_Trie_Get.f bt131.1 64).bind fun t136 => (if t136 = 5 then ((trie_Trie_Get.f bt131.1 65).bind fun t137 => (if t137 = 0 then ((trie_Trie_Get.f bt131.1 150).bind fun t138 => (if t138 = 7 then ((trie_Trie_Blocks.f bt131.1).bind fun t139 => (some (t139 == 5))) else (some false))) else (some false))) else (some false)))) else (some false))
theorem endonymlaw4_told.mono : ∀ k, LeO (endonymlaw4_told.f k ) (endonymlaw4_told.f (k + 1) ) := by
 intro  k
 unfold endonymlaw4_told.f
 repeat' first
   | (with_reducible exact trie_Build.mono _ _ _)
   | (with_reducible exact LeO.refl _)
   | (with_reducible exact LeO.none _)
   | (with_reducible refine LeO.ite ?_ ?_)
   | (with_reducible refine LeO.bind ?_ (fun _ => ?_))
   | exact trie_Build.mono _ _ _
   | exact LeO.none _
   | refine LeO.ite ?_ ?_
   | refine LeO.bind ?_ (fun _ => ?_)
set_option maxHeartbeats 8000000 in
set_option maxRecDepth 100000 in
theorem endonymlaw4_told.calls (k : Nat)  (r : Bool) (w : World) (h : endonymlaw4_told.f k  = some r) :
  Calls Try.prog 11 #[] w fun e w' => e = .returned (.bool r) ∧ Below w.heap.size w w' := by
 have hu35 := Try.underlying35
 have HB := Aside0.mk (Below.refl w.heap.size w)
 have H : ((trie_Build.f k (([(⟨0, 64, 5⟩ : S35), (⟨100, 200, 7⟩ : S35)] : List (S35))) 0).bind fun bt131 => (if bt131.2.2 = 0 then (if ((bt131.1.isEmpty) = true) then (some false) else ((trie_Trie_Get.f bt131.1 64).bind fun t136 => (if t136 = 5 then ((trie_Trie_Get.f bt131.1 65).bind fun t137 => (if t137 = 0 then ((trie_Trie_Get.f bt131.1 150).bind fun t138 => (if t138 = 7 then ((trie_Trie_Blocks.f bt131.1).bind fun t139 => (some (t139 == 5))) else (some false))) else (some false))) else (some false)))) else (some false))) = some r := h
 clear h
 obtain ⟨y128, hy128⟩ : ∃ y_ : List (S35), y_ = (([(⟨0, 64, 5⟩ : S35), (⟨100, 200, 7⟩ : S35)] : List (S35))) := ⟨_, rfl⟩
 replace H : ((trie_Build.f k y128 0).bind fun bt131 => (if bt131.2.2 = 0 then (if ((bt131.1.isEmpty) = true) then (some false) else ((trie_Trie_Get.f bt131.1 64).bind fun t136 => (if t136 = 5 then ((trie_Trie_Get.f bt131.1 65).bind fun t137 => (if t137 = 0 then ((trie_Trie_Get.f bt131.1 150).bind fun t138 => (if t138 = 7 then ((trie_Trie_Blocks.f bt131.1).bind fun t139 => (some (t139 == 5))) else (some false))) else (some false))) else (some false)))) else (some false))) = some r := by first | (rw [hy128]; with_reducible exact H) | (have H2_ := (Option.bind_some _ _).symm.trans H; rw [hy128]; with_reducible exact H2_) | (have H2_ := (Option.bind_some _ _).symm.trans H; with_reducible exact H2_) | with_reducible exact H | (rw [hy128]; exact H) | exact H
 have Ny128 := Aside0.mk hy128
 clear hy128
 replace H := Option.bind_eq_some_iff.mp H
 obtain ⟨⟨t131, t132, t133⟩, A10, H⟩ := H
 replace H : (if t133 = 0 then (if ((t131.isEmpty) = true) then (some false) else ((trie_Trie_Get.f t131 64).bind fun t136 => (if t136 = 5 then ((trie_Trie_Get.f t131 65).bind fun t137 => (if t137 = 0 then ((trie_Trie_Get.f t131 150).bind fun t138 => (if t138 = 7 then ((trie_Trie_Blocks.f t131).bind fun t139 => (some (t139 == 5))) else (some false))) else (some false))) else (some false)))) else (some false)) = some r := H
 have A1 := Aside0.mk A10
 clear A10
 by_cases c2 : t133 = 0
 ·rw [if_pos c2] at H
  have c2b0 : (t133 == 0) = true := beq_iff_eq.mpr c2
  have c2b1 : (t133 != 0) = false := bne_eq_false_iff_eq.mpr c2
  clear c2
  by_cases c3 : ((t131.isEmpty) = true)
  ·rw [if_pos c3] at H
   have c3b0 : (t131.isEmpty) = true := c3
   clear c3
   obtain rfl := Option.some.inj H
   go_enter Try.func11, Try.ntmps11
   go_wp2_with (first | ((with_reducible refine gate_dst (N := 7) rfl ?_); refine Kd.R_lit k35 _ 35 ?hg (N := 7) ?hd (xs := ([(⟨0, 64, 5⟩ : S35), (⟨100, 200, 7⟩ : S35)] : List (S35))) (inner := [.int .i64 0, .int .i64 64, .int .i64 5, .int .i64 100, .int .i64 200, .int .i64 7]) (ok := fun _ => True) (okp := fun _ => True) ?hr ?hp (fun _ hk => hk) trivial (Below.refl _ _) (Nat.le_refl _) (by simp) ?_; (case hd => rfl); (case hg => rfl); (case hr => first | (go_simp; done) | (go_simp; rfl)); (case hp => exact (Reps.c3 (show Kd.M k35 _ _ _ (⟨0, 64, 5⟩ : S35) [.int .i64 0, .int .i64 64, .int .i64 5] from (k35_mkM _ _ _ (⟨0, 64, 5⟩ : S35) )) (Reps.c3 (show Kd.M k35 _ _ _ (⟨100, 200, 7⟩ : S35) [.int .i64 100, .int .i64 200, .int .i64 7] from (k35_mkM _ _ _ (⟨100, 200, 7⟩ : S35) )) (Reps.none _ _)))); intro v129 w4 ho5 hb hg_ hnew_; clear hg_ hnew_; (first | rw [← Ny128.out] at ho5 | (simp only [Int.reduceToNat] at ho5; rw [← Ny128.out] at ho5)); have n0_ := Aside0.mk (Kd.R_lower ho5 (below_size (by repeat (first | (with_reducible first | exact HB.out | apply below_alloc | apply pw_below_drewN | apply below_drew1) | exact HB.out)))); have n1_ := Aside0.mk (below_step (by repeat (first | (with_reducible first | exact HB.out | apply below_alloc | apply pw_below_drewN | apply below_drew1) | exact HB.out)) hb); clear HB; have HO130 := n0_; have HB := n1_; clear n0_ n1_; clear hb ho5; obtain ⟨Ao6, co6, eo6⟩ := Kd.R_slice HO130.out; subst eo6) | ((with_reducible refine gate_callee (f := 9) rfl ?_); refine goesL_ (some 8) rfl rfl Try.func9 (by kernel_rfl) rfl #[.slice Ao6 y128.length co6, .int .i64 0] rfl (by (try simp only [List.map_toArray, List.map_cons, List.map_nil]); first | done | rfl | (simp only [List.length_drop, List.length_take]; rfl)) ?_; (with_reducible refine (trie_Build.calls k _ _ y128 0 t131 t132 t133 _ ?side1 ?side2 A1.out).mono ?_); (case side1 => repeat (first | exact (Kd.R_reads' HO130.out).2.2 | (with_reducible refine Kd.C_alloc ?_ _) | (with_reducible refine Kd.C_drewN ?_ _) | (with_reducible refine Kd.C_drew ?_))); (case side2 => exact (Kd.R_reads' HO130.out).2.1); rintro e w7 ⟨v134, rfl, ho0, hb⟩; refine ⟨_, rfl, ?_⟩; have n0_ := Aside0.mk (Kd.R_below (by (with_reducible repeat (first | apply Kd.R_alloc | apply Kd.R_drewN | apply Kd.R_drew)); exact HO130.out) hb); have n1_ := Aside0.mk (Kd.P_lower ho0 (below_size (by repeat (first | (with_reducible first | exact HB.out | apply below_alloc | apply pw_below_drewN | apply below_drew1) | exact HB.out)))); have n2_ := Aside0.mk (below_step (by repeat (first | (with_reducible first | exact HB.out | apply below_alloc | apply pw_below_drewN | apply below_drew1) | exact HB.out)) hb); clear HO130; clear HB; have HO130 := n0_; have HO135 := n1_; have HB := n2_; clear n0_ n1_ n2_; (try clear hb); (try clear hb2); (try clear hk); (try clear hi); (try clear ho0); obtain ⟨Ao8, co8, eo8⟩ := Kd.P_slice HO135.out; subst eo8; have hz9 := Kd.PC_isNone ((Kd.P_reads' HO135.out).2.2)))
   go_ret
   exact ⟨by first | rfl | (simp [errW_none, errW_some] <;> rfl) | (simp [*, errW_none, errW_some] <;> rfl), by repeat (first | (with_reducible first | exact HB.out | apply below_alloc | apply pw_below_drewN | apply below_drew1) | exact HB.out)⟩
  ·rw [if_neg c3] at H
   have c3b0 : (t131.isEmpty) = false := by simpa using c3
   clear c3
   replace H := Option.bind_eq_some_iff.mp H
   obtain ⟨t136, A100, H⟩ := H
   replace H : (if t136 = 5 then ((trie_Trie_Get.f t131 65).bind fun t137 => (if t137 = 0 then ((trie_Trie_Get.f t131 150).bind fun t138 => (if t138 = 7 then ((trie_Trie_Blocks.f t131).bind fun t139 => (some (t139 == 5))) else (some false))) else (some false))) else (some false)) = some r := H
   have A10 := Aside0.mk A100
   clear A100
   by_cases c11 : t136 = 5
   ·rw [if_pos c11] at H
    have c11b0 : (t136 == 5) = true := beq_iff_eq.mpr c11
    have c11b1 : (t136 != 5) = false := bne_eq_false_iff_eq.mpr c11
    clear c11
    replace H := Option.bind_eq_some_iff.mp H
    obtain ⟨t137, A120, H⟩ := H
    replace H : (if t137 = 0 then ((trie_Trie_Get.f t131 150).bind fun t138 => (if t138 = 7 then ((trie_Trie_Blocks.f t131).bind fun t139 => (some (t139 == 5))) else (some false))) else (some false)) = some r := H
    have A12 := Aside0.mk A120
    clear A120
    by_cases c13 : t137 = 0
    ·rw [if_pos c13] at H
     have c13b0 : (t137 == 0) = true := beq_iff_eq.mpr c13
     have c13b1 : (t137 != 0) = false := bne_eq_false_iff_eq.mpr c13
     clear c13
     replace H := Option.bind_eq_some_iff.mp H
     obtain ⟨t138, A140, H⟩ := H
     replace H : (if t138 = 7 then ((trie_Trie_Blocks.f t131).bind fun t139 => (some (t139 == 5))) else (some false)) = some r := H
     have A14 := Aside0.mk A140
     clear A140
     by_cases c15 : t138 = 7
     ·rw [if_pos c15] at H
      have c15b0 : (t138 == 7) = true := beq_iff_eq.mpr c15
      have c15b1 : (t138 != 7) = false := bne_eq_false_iff_eq.mpr c15
      clear c15
      replace H := Option.bind_eq_some_iff.mp H
      obtain ⟨t139, A160, H⟩ := H
      replace H : (some (t139 == 5)) = some r := H
      have A16 := Aside0.mk A160
      clear A160
      obtain rfl := Option.some.inj H
      go_enter Try.func11, Try.ntmps11
      go_wp2_with (first | ((with_reducible refine gate_dst (N := 7) rfl ?_); refine Kd.R_lit k35 _ 35 ?hg (N := 7) ?hd (xs := ([(⟨0, 64, 5⟩ : S35), (⟨100, 200, 7⟩ : S35)] : List (S35))) (inner := [.int .i64 0, .int .i64 64, .int .i64 5, .int .i64 100, .int .i64 200, .int .i64 7]) (ok := fun _ => True) (okp := fun _ => True) ?hr ?hp (fun _ hk => hk) trivial (Below.refl _ _) (Nat.le_refl _) (by simp) ?_; (case hd => rfl); (case hg => rfl); (case hr => first | (go_simp; done) | (go_simp; rfl)); (case hp => exact (Reps.c3 (show Kd.M k35 _ _ _ (⟨0, 64, 5⟩ : S35) [.int .i64 0, .int .i64 64, .int .i64 5] from (k35_mkM _ _ _ (⟨0, 64, 5⟩ : S35) )) (Reps.c3 (show Kd.M k35 _ _ _ (⟨100, 200, 7⟩ : S35) [.int .i64 100, .int .i64 200, .int .i64 7] from (k35_mkM _ _ _ (⟨100, 200, 7⟩ : S35) )) (Reps.none _ _)))); intro v129 w17 ho18 hb hg_ hnew_; clear hg_ hnew_; (first | rw [← Ny128.out] at ho18 | (simp only [Int.reduceToNat] at ho18; rw [← Ny128.out] at ho18)); have n0_ := Aside0.mk (Kd.R_lower ho18 (below_size (by repeat (first | (with_reducible first | exact HB.out | apply below_alloc | apply pw_below_drewN | apply below_drew1) | exact HB.out)))); have n1_ := Aside0.mk (below_step (by repeat (first | (with_reducible first | exact HB.out | apply below_alloc | apply pw_below_drewN | apply below_drew1) | exact HB.out)) hb); clear HB; have HO130 := n0_; have HB := n1_; clear n0_ n1_; clear hb ho18; obtain ⟨Ao19, co19, eo19⟩ := Kd.R_slice HO130.out; subst eo19) | ((with_reducible refine gate_callee (f := 9) rfl ?_); refine goesL_ (some 8) rfl rfl Try.func9 (by kernel_rfl) rfl #[.slice Ao19 y128.length co19, .int .i64 0] rfl (by (try simp only [List.map_toArray, List.map_cons, List.map_nil]); first | done | rfl | (simp only [List.length_drop, List.length_take]; rfl)) ?_; (with_reducible refine (trie_Build.calls k _ _ y128 0 t131 t132 t133 _ ?side1 ?side2 A1.out).mono ?_); (case side1 => repeat (first | exact (Kd.R_reads' HO130.out).2.2 | (with_reducible refine Kd.C_alloc ?_ _) | (with_reducible refine Kd.C_drewN ?_ _) | (with_reducible refine Kd.C_drew ?_))); (case side2 => exact (Kd.R_reads' HO130.out).2.1); rintro e w20 ⟨v134, rfl, ho0, hb⟩; refine ⟨_, rfl, ?_⟩; have n0_ := Aside0.mk (Kd.R_below (by (with_reducible repeat (first | apply Kd.R_alloc | apply Kd.R_drewN | apply Kd.R_drew)); exact HO130.out) hb); have n1_ := Aside0.mk (Kd.P_lower ho0 (below_size (by repeat (first | (with_reducible first | exact HB.out | apply below_alloc | apply pw_below_drewN | apply below_drew1) | exact HB.out)))); have n2_ := Aside0.mk (below_step (by repeat (first | (with_reducible first | exact HB.out | apply below_alloc | apply pw_below_drewN | apply below_drew1) | exact HB.out)) hb); clear HO130; clear HB; have HO130 := n0_; have HO135 := n1_; have HB := n2_; clear n0_ n1_ n2_; (try clear hb); (try clear hb2); (try clear hk); (try clear hi); (try clear ho0); obtain ⟨Ao21, co21, eo21⟩ := Kd.P_slice HO135.out; subst eo21; have hz22 := Kd.PC_isNone ((Kd.P_reads' HO135.out).2.2)) | (go_at_call 13; (with_reducible refine (trie_Trie_Get.calls _ t131 64 t136 _ ?side1 A10.out).mono ?_); (case side1 => repeat (first | exact (Kd.P_reads' HO135.out).2.2 | (with_reducible refine Kd.PC_alloc ?_ _) | (with_reducible refine Kd.PC_drewN ?_ _) | (with_reducible refine Kd.PC_drew ?_))); rintro e w' ⟨rfl, ⟨nd, rfl⟩⟩) | (go_at_call 13; (with_reducible refine (trie_Trie_Get.calls _ t131 65 t137 _ ?side1 A12.out).mono ?_); (case side1 => repeat (first | exact (Kd.P_reads' HO135.out).2.2 | (with_reducible refine Kd.PC_alloc ?_ _) | (with_reducible refine Kd.PC_drewN ?_ _) | (with_reducible refine Kd.PC_drew ?_))); rintro e w' ⟨rfl, ⟨nd, rfl⟩⟩) | (go_at_call 13; (with_reducible refine (trie_Trie_Get.calls _ t131 150 t138 _ ?side1 A14.out).mono ?_); (case side1 => repeat (first | exact (Kd.P_reads' HO135.out).2.2 | (with_reducible refine Kd.PC_alloc ?_ _) | (with_reducible refine Kd.PC_drewN ?_ _) | (with_reducible refine Kd.PC_drew ?_))); rintro e w' ⟨rfl, ⟨nd, rfl⟩⟩) | (go_at_call 21; (with_reducible refine (trie_Trie_Blocks.calls _ t131 t139 _ ?side1 A16.out).mono ?_); (case side1 => repeat (first | exact (Kd.P_reads' HO135.out).2.2 | (with_reducible refine Kd.PC_alloc ?_ _) | (with_reducible refine Kd.PC_drewN ?_ _) | (with_reducible refine Kd.PC_drew ?_))); rintro e w' ⟨rfl, ⟨nd, rfl⟩⟩))
      go_ret
      exact ⟨by first | rfl | (simp [errW_none, errW_some] <;> rfl) | (simp [*, errW_none, errW_some] <;> rfl), by repeat (first | (with_reducible first | exact HB.out | apply below_alloc | apply pw_below_drewN | apply below_drew1) | exact HB.out)⟩
     ·rw [if_neg c15] at H
      have c15b0 : (t138 == 7) = false := beq_eq_false_iff_ne.mpr c15
      have c15b1 : (t138 != 7) = true := bne_iff_ne.mpr c15
      obtain rfl := Option.some.inj H
      go_enter Try.func11, Try.ntmps11
      go_wp2_with (first | ((with_reducible refine gate_dst (N := 7) rfl ?_); refine Kd.R_lit k35 _ 35 ?hg (N := 7) ?hd (xs := ([(⟨0, 64, 5⟩ : S35), (⟨100, 200, 7⟩ : S35)] : List (S35))) (inner := [.int .i64 0, .int .i64 64, .int .i64 5, .int .i64 100, .int .i64 200, .int .i64 7]) (ok := fun _ => True) (okp := fun _ => True) ?hr ?hp (fun _ hk => hk) trivial (Below.refl _ _) (Nat.le_refl _) (by simp) ?_; (case hd => rfl); (case hg => rfl); (case hr => first | (go_simp; done) | (go_simp; rfl)); (case hp => exact (Reps.c3 (show Kd.M k35 _ _ _ (⟨0, 64, 5⟩ : S35) [.int .i64 0, .int .i64 64, .int .i64 5] from (k35_mkM _ _ _ (⟨0, 64, 5⟩ : S35) )) (Reps.c3 (show Kd.M k35 _ _ _ (⟨100, 200, 7⟩ : S35) [.int .i64 100, .int .i64 200, .int .i64 7] from (k35_mkM _ _ _ (⟨100, 200, 7⟩ : S35) )) (Reps.none _ _)))); intro v129 w23 ho24 hb hg_ hnew_; clear hg_ hnew_; (first | rw [← Ny128.out] at ho24 | (simp only [Int.reduceToNat] at ho24; rw [← Ny128.out] at ho24)); have n0_ := Aside0.mk (Kd.R_lower ho24 (below_size (by repeat (first | (with_reducible first | exact HB.out | apply below_alloc | apply pw_below_drewN | apply below_drew1) | exact HB.out)))); have n1_ := Aside0.mk (below_step (by repeat (first | (with_reducible first | exact HB.out | apply below_alloc | apply pw_below_drewN | apply below_drew1) | exact HB.out)) hb); clear HB; have HO130 := n0_; have HB := n1_; clear n0_ n1_; clear hb ho24; obtain ⟨Ao25, co25, eo25⟩ := Kd.R_slice HO130.out; subst eo25) | ((with_reducible refine gate_callee (f := 9) rfl ?_); refine goesL_ (some 8) rfl rfl Try.func9 (by kernel_rfl) rfl #[.slice Ao25 y128.length co25, .int .i64 0] rfl (by (try simp only [List.map_toArray, List.map_cons, List.map_nil]); first | done | rfl | (simp only [List.length_drop, List.length_take]; rfl)) ?_; (with_reducible refine (trie_Build.calls k _ _ y128 0 t131 t132 t133 _ ?side1 ?side2 A1.out).mono ?_); (case side1 => repeat (first | exact (Kd.R_reads' HO130.out).2.2 | (with_reducible refine Kd.C_alloc ?_ _) | (with_reducible refine Kd.C_drewN ?_ _) | (with_reducible refine Kd.C_drew ?_))); (case side2 => exact (Kd.R_reads' HO130.out).2.1); rintro e w26 ⟨v134, rfl, ho0, hb⟩; refine ⟨_, rfl, ?_⟩; have n0_ := Aside0.mk (Kd.R_below (by (with_reducible repeat (first | apply Kd.R_alloc | apply Kd.R_drewN | apply Kd.R_drew)); exact HO130.out) hb); have n1_ := Aside0.mk (Kd.P_lower ho0 (below_size (by repeat (first | (with_reducible first | exact HB.out | apply below_alloc | apply pw_below_drewN | apply below_drew1) | exact HB.out)))); have n2_ := Aside0.mk (below_step (by repeat (first | (with_reducible first | exact HB.out | apply below_alloc | apply pw_below_drewN | apply below_drew1) | exact HB.out)) hb); clear HO130; clear HB; have HO130 := n0_; have HO135 := n1_; have HB := n2_; clear n0_ n1_ n2_; (try clear hb); (try clear hb2); (try clear hk); (try clear hi); (try clear ho0); obtain ⟨Ao27, co27, eo27⟩ := Kd.P_slice HO135.out; subst eo27; have hz28 := Kd.PC_isNone ((Kd.P_reads' HO135.out).2.2)) | (go_at_call 13; (with_reducible refine (trie_Trie_Get.calls _ t131 64 t136 _ ?side1 A10.out).mono ?_); (case side1 => repeat (first | exact (Kd.P_reads' HO135.out).2.2 | (with_reducible refine Kd.PC_alloc ?_ _) | (with_reducible refine Kd.PC_drewN ?_ _) | (with_reducible refine Kd.PC_drew ?_))); rintro e w' ⟨rfl, ⟨nd, rfl⟩⟩) | (go_at_call 13; (with_reducible refine (trie_Trie_Get.calls _ t131 65 t137 _ ?side1 A12.out).mono ?_); (case side1 => repeat (first | exact (Kd.P_reads' HO135.out).2.2 | (with_reducible refine Kd.PC_alloc ?_ _) | (with_reducible refine Kd.PC_drewN ?_ _) | (with_reducible refine Kd.PC_drew ?_))); rintro e w' ⟨rfl, ⟨nd, rfl⟩⟩) | (go_at_call 13; (with_reducible refine (trie_Trie_Get.calls _ t131 150 t138 _ ?side1 A14.out).mono ?_); (case side1 => repeat (first | exact (Kd.P_reads' HO135.out).2.2 | (with_reducible refine Kd.PC_alloc ?_ _) | (with_reducible refine Kd.PC_drewN ?_ _) | (with_reducible refine Kd.PC_drew ?_))); rintro e w' ⟨rfl, ⟨nd, rfl⟩⟩))
      go_ret
      exact ⟨by first | rfl | (simp [errW_none, errW_some] <;> rfl) | (simp [*, errW_none, errW_some] <;> rfl), by repeat (first | (with_reducible first | exact HB.out | apply below_alloc | apply pw_below_drewN | apply below_drew1) | exact HB.out)⟩
    ·rw [if_neg c13] at H
     have c13b0 : (t137 == 0) = false := beq_eq_false_iff_ne.mpr c13
     have c13b1 : (t137 != 0) = true := bne_iff_ne.mpr c13
     obtain rfl := Option.some.inj H
     go_enter Try.func11, Try.ntmps11
     go_wp2_with (first | ((with_reducible refine gate_dst (N := 7) rfl ?_); refine Kd.R_lit k35 _ 35 ?hg (N := 7) ?hd (xs := ([(⟨0, 64, 5⟩ : S35), (⟨100, 200, 7⟩ : S35)] : List (S35))) (inner := [.int .i64 0, .int .i64 64, .int .i64 5, .int .i64 100, .int .i64 200, .int .i64 7]) (ok := fun _ => True) (okp := fun _ => True) ?hr ?hp (fun _ hk => hk) trivial (Below.refl _ _) (Nat.le_refl _) (by simp) ?_; (case hd => rfl); (case hg => rfl); (case hr => first | (go_simp; done) | (go_simp; rfl)); (case hp => exact (Reps.c3 (show Kd.M k35 _ _ _ (⟨0, 64, 5⟩ : S35) [.int .i64 0, .int .i64 64, .int .i64 5] from (k35_mkM _ _ _ (⟨0, 64, 5⟩ : S35) )) (Reps.c3 (show Kd.M k35 _ _ _ (⟨100, 200, 7⟩ : S35) [.int .i64 100, .int .i64 200, .int .i64 7] from (k35_mkM _ _ _ (⟨100, 200, 7⟩ : S35) )) (Reps.none _ _)))); intro v129 w29 ho30 hb hg_ hnew_; clear hg_ hnew_; (first | rw [← Ny128.out] at ho30 | (simp only [Int.reduceToNat] at ho30; rw [← Ny128.out] at ho30)); have n0_ := Aside0.mk (Kd.R_lower ho30 (below_size (by repeat (first | (with_reducible first | exact HB.out | apply below_alloc | apply pw_below_drewN | apply below_drew1) | exact HB.out)))); have n1_ := Aside0.mk (below_step (by repeat (first | (with_reducible first | exact HB.out | apply below_alloc | apply pw_below_drewN | apply below_drew1) | exact HB.out)) hb); clear HB; have HO130 := n0_; have HB := n1_; clear n0_ n1_; clear hb ho30; obtain ⟨Ao31, co31, eo31⟩ := Kd.R_slice HO130.out; subst eo31) | ((with_reducible refine gate_callee (f := 9) rfl ?_); refine goesL_ (some 8) rfl rfl Try.func9 (by kernel_rfl) rfl #[.slice Ao31 y128.length co31, .int .i64 0] rfl (by (try simp only [List.map_toArray, List.map_cons, List.map_nil]); first | done | rfl | (simp only [List.length_drop, List.length_take]; rfl)) ?_; (with_reducible refine (trie_Build.calls k _ _ y128 0 t131 t132 t133 _ ?side1 ?side2 A1.out).mono ?_); (case side1 => repeat (first | exact (Kd.R_reads' HO130.out).2.2 | (with_reducible refine Kd.C_alloc ?_ _) | (with_reducible refine Kd.C_drewN ?_ _) | (with_reducible refine Kd.C_drew ?_))); (case side2 => exact (Kd.R_reads' HO130.out).2.1); rintro e w32 ⟨v134, rfl, ho0, hb⟩; refine ⟨_, rfl, ?_⟩; have n0_ := Aside0.mk (Kd.R_below (by (with_reducible repeat (first | apply Kd.R_alloc | apply Kd.R_drewN | apply Kd.R_drew)); exact HO130.out) hb); have n1_ := Aside0.mk (Kd.P_lower ho0 (below_size (by repeat (first | (with_reducible first | exact HB.out | apply below_alloc | apply pw_below_drewN | apply below_drew1) | exact HB.out)))); have n2_ := Aside0.mk (below_step (by repeat (first | (with_reducible first | exact HB.out | apply below_alloc | apply pw_below_drewN | apply below_drew1) | exact HB.out)) hb); clear HO130; clear HB; have HO130 := n0_; have HO135 := n1_; have HB := n2_; clear n0_ n1_ n2_; (try clear hb); (try clear hb2); (try clear hk); (try clear hi); (try clear ho0); obtain ⟨Ao33, co33, eo33⟩ := Kd.P_slice HO135.out; subst eo33; have hz34 := Kd.PC_isNone ((Kd.P_reads' HO135.out).2.2)) | (go_at_call 13; (with_reducible refine (trie_Trie_Get.calls _ t131 64 t136 _ ?side1 A10.out).mono ?_); (case side1 => repeat (first | exact (Kd.P_reads' HO135.out).2.2 | (with_reducible refine Kd.PC_alloc ?_ _) | (with_reducible refine Kd.PC_drewN ?_ _) | (with_reducible refine Kd.PC_drew ?_))); rintro e w' ⟨rfl, ⟨nd, rfl⟩⟩) | (go_at_call 13; (with_reducible refine (trie_Trie_Get.calls _ t131 65 t137 _ ?side1 A12.out).mono ?_); (case side1 => repeat (first | exact (Kd.P_reads' HO135.out).2.2 | (with_reducible refine Kd.PC_alloc ?_ _) | (with_reducible refine Kd.PC_drewN ?_ _) | (with_reducible refine Kd.PC_drew ?_))); rintro e w' ⟨rfl, ⟨nd, rfl⟩⟩))
     go_ret
     exact ⟨by first | rfl | (simp [errW_none, errW_some] <;> rfl) | (simp [*, errW_none, errW_some] <;> rfl), by repeat (first | (with_reducible first | exact HB.out | apply below_alloc | apply pw_below_drewN | apply below_drew1) | exact HB.out)⟩
   ·rw [if_neg c11] at H
    have c11b0 : (t136 == 5) = false := beq_eq_false_iff_ne.mpr c11
    have c11b1 : (t136 != 5) = true := bne_iff_ne.mpr c11
    obtain rfl := Option.some.inj H
    go_enter Try.func11, Try.ntmps11
    go_wp2_with (first | ((with_reducible refine gate_dst (N := 7) rfl ?_); refine Kd.R_lit k35 _ 35 ?hg (N := 7) ?hd (xs := ([(⟨0, 64, 5⟩ : S35), (⟨100, 200, 7⟩ : S35)] : List (S35))) (inner := [.int .i64 0, .int .i64 64, .int .i64 5, .int .i64 100, .int .i64 200, .int .i64 7]) (ok := fun _ => True) (okp := fun _ => True) ?hr ?hp (fun _ hk => hk) trivial (Below.refl _ _) (Nat.le_refl _) (by simp) ?_; (case hd => rfl); (case hg => rfl); (case hr => first | (go_simp; done) | (go_simp; rfl)); (case hp => exact (Reps.c3 (show Kd.M k35 _ _ _ (⟨0, 64, 5⟩ : S35) [.int .i64 0, .int .i64 64, .int .i64 5] from (k35_mkM _ _ _ (⟨0, 64, 5⟩ : S35) )) (Reps.c3 (show Kd.M k35 _ _ _ (⟨100, 200, 7⟩ : S35) [.int .i64 100, .int .i64 200, .int .i64 7] from (k35_mkM _ _ _ (⟨100, 200, 7⟩ : S35) )) (Reps.none _ _)))); intro v129 w35 ho36 hb hg_ hnew_; clear hg_ hnew_; (first | rw [← Ny128.out] at ho36 | (simp only [Int.reduceToNat] at ho36; rw [← Ny128.out] at ho36)); have n0_ := Aside0.mk (Kd.R_lower ho36 (below_size (by repeat (first | (with_reducible first | exact HB.out | apply below_alloc | apply pw_below_drewN | apply below_drew1) | exact HB.out)))); have n1_ := Aside0.mk (below_step (by repeat (first | (with_reducible first | exact HB.out | apply below_alloc | apply pw_below_drewN | apply below_drew1) | exact HB.out)) hb); clear HB; have HO130 := n0_; have HB := n1_; clear n0_ n1_; clear hb ho36; obtain ⟨Ao37, co37, eo37⟩ := Kd.R_slice HO130.out; subst eo37) | ((with_reducible refine gate_callee (f := 9) rfl ?_); refine goesL_ (some 8) rfl rfl Try.func9 (by kernel_rfl) rfl #[.slice Ao37 y128.length co37, .int .i64 0] rfl (by (try simp only [List.map_toArray, List.map_cons, List.map_nil]); first | done | rfl | (simp only [List.length_drop, List.length_take]; rfl)) ?_; (with_reducible refine (trie_Build.calls k _ _ y128 0 t131 t132 t133 _ ?side1 ?side2 A1.out).mono ?_); (case side1 => repeat (first | exact (Kd.R_reads' HO130.out).2.2 | (with_reducible refine Kd.C_alloc ?_ _) | (with_reducible refine Kd.C_drewN ?_ _) | (with_reducible refine Kd.C_drew ?_))); (case side2 => exact (Kd.R_reads' HO130.out).2.1); rintro e w38 ⟨v134, rfl, ho0, hb⟩; refine ⟨_, rfl, ?_⟩; have n0_ := Aside0.mk (Kd.R_below (by (with_reducible repeat (first | apply Kd.R_alloc | apply Kd.R_drewN | apply Kd.R_drew)); exact HO130.out) hb); have n1_ := Aside0.mk (Kd.P_lower ho0 (below_size (by repeat (first | (with_reducible first | exact HB.out | apply below_alloc | apply pw_below_drewN | apply below_drew1) | exact HB.out)))); have n2_ := Aside0.mk (below_step (by repeat (first | (with_reducible first | exact HB.out | apply below_alloc | apply pw_below_drewN | apply below_drew1) | exact HB.out)) hb); clear HO130; clear HB; have HO130 := n0_; have HO135 := n1_; have HB := n2_; clear n0_ n1_ n2_; (try clear hb); (try clear hb2); (try clear hk); (try clear hi); (try clear ho0); obtain ⟨Ao39, co39, eo39⟩ := Kd.P_slice HO135.out; subst eo39; have hz40 := Kd.PC_isNone ((Kd.P_reads' HO135.out).2.2)) | (go_at_call 13; (with_reducible refine (trie_Trie_Get.calls _ t131 64 t136 _ ?side1 A10.out).mono ?_); (case side1 => repeat (first | exact (Kd.P_reads' HO135.out).2.2 | (with_reducible refine Kd.PC_alloc ?_ _) | (with_reducible refine Kd.PC_drewN ?_ _) | (with_reducible refine Kd.PC_drew ?_))); rintro e w' ⟨rfl, ⟨nd, rfl⟩⟩))
    go_ret
    exact ⟨by first | rfl | (simp [errW_none, errW_some] <;> rfl) | (simp [*, errW_none, errW_some] <;> rfl), by repeat (first | (with_reducible first | exact HB.out | apply below_alloc | apply pw_below_drewN | apply below_drew1) | exact HB.out)⟩
 ·rw [if_neg c2] at H
  have c2b0 : (t133 == 0) = false := beq_eq_false_iff_ne.mpr c2
  have c2b1 : (t133 != 0) = true := bne_iff_ne.mpr c2
  obtain rfl := Option.some.inj H
  go_enter Try.func11, Try.ntmps11
  go_wp2_with (first | ((with_reducible refine gate_dst (N := 7) rfl ?_); refine Kd.R_lit k35 _ 35 ?hg (N := 7) ?hd (xs := ([(⟨0, 64, 5⟩ : S35), (⟨100, 200, 7⟩ : S35)] : List (S35))) (inner := [.int .i64 0, .int .i64 64, .int .i64 5, .int .i64 100, .int .i64 200, .int .i64 7]) (ok := fun _ => True) (okp := fun _ => True) ?hr ?hp (fun _ hk => hk) trivial (Below.refl _ _) (Nat.le_refl _) (by simp) ?_; (case hd => rfl); (case hg => rfl); (case hr => first | (go_simp; done) | (go_simp; rfl)); (case hp => exact (Reps.c3 (show Kd.M k35 _ _ _ (⟨0, 64, 5⟩ : S35) [.int .i64 0, .int .i64 64, .int .i64 5] from (k35_mkM _ _ _ (⟨0, 64, 5⟩ : S35) )) (Reps.c3 (show Kd.M k35 _ _ _ (⟨100, 200, 7⟩ : S35) [.int .i64 100, .int .i64 200, .int .i64 7] from (k35_mkM _ _ _ (⟨100, 200, 7⟩ : S35) )) (Reps.none _ _)))); intro v129 w41 ho42 hb hg_ hnew_; clear hg_ hnew_; (first | rw [← Ny128.out] at ho42 | (simp only [Int.reduceToNat] at ho42; rw [← Ny128.out] at ho42)); have n0_ := Aside0.mk (Kd.R_lower ho42 (below_size (by repeat (first | (with_reducible first | exact HB.out | apply below_alloc | apply pw_below_drewN | apply below_drew1) | exact HB.out)))); have n1_ := Aside0.mk (below_step (by repeat (first | (with_reducible first | exact HB.out | apply below_alloc | apply pw_below_drewN | apply below_drew1) | exact HB.out)) hb); clear HB; have HO130 := n0_; have HB := n1_; clear n0_ n1_; clear hb ho42; obtain ⟨Ao43, co43, eo43⟩ := Kd.R_slice HO130.out; subst eo43) | ((with_reducible refine gate_callee (f := 9) rfl ?_); refine goesL_ (some 8) rfl rfl Try.func9 (by kernel_rfl) rfl #[.slice Ao43 y128.length co43, .int .i64 0] rfl (by (try simp only [List.map_toArray, List.map_cons, List.map_nil]); first | done | rfl | (simp only [List.length_drop, List.length_take]; rfl)) ?_; (with_reducible refine (trie_Build.calls k _ _ y128 0 t131 t132 t133 _ ?side1 ?side2 A1.out).mono ?_); (case side1 => repeat (first | exact (Kd.R_reads' HO130.out).2.2 | (with_reducible refine Kd.C_alloc ?_ _) | (with_reducible refine Kd.C_drewN ?_ _) | (with_reducible refine Kd.C_drew ?_))); (case side2 => exact (Kd.R_reads' HO130.out).2.1); rintro e w44 ⟨v134, rfl, ho0, hb⟩; refine ⟨_, rfl, ?_⟩; have n0_ := Aside0.mk (Kd.R_below (by (with_reducible repeat (first | apply Kd.R_alloc | apply Kd.R_drewN | apply Kd.R_drew)); exact HO130.out) hb); have n1_ := Aside0.mk (Kd.P_lower ho0 (below_size (by repeat (first | (with_reducible first | exact HB.out | apply below_alloc | apply pw_below_drewN | apply below_drew1) | exact HB.out)))); have n2_ := Aside0.mk (below_step (by repeat (first | (with_reducible first | exact HB.out | apply below_alloc | apply pw_below_drewN | apply below_drew1) | exact HB.out)) hb); clear HO130; clear HB; have HO130 := n0_; have HO135 := n1_; have HB := n2_; clear n0_ n1_ n2_; (try clear hb); (try clear hb2); (try clear hk); (try clear hi); (try clear ho0)))
  go_ret
  exact ⟨by first | rfl | (simp [errW_none, errW_some] <;> rfl) | (simp [*, errW_none, errW_some] <;> rfl), by repeat (first | (with_reducible first | exact HB.out | apply below_alloc | apply pw_below_drewN | apply below_drew1) | exact HB.out)⟩

/-! ### endonymref4_Same: function 12 -/
def endonymref4_Same.l0 : Nat → List (S35) → List (S35) → Int → Option (Bool)
 | 0, _, _, _ => none
 | k + 1, x0, x1, x5 => if x5 < (x0.length : Int) then (if 0 ≤ x5 then (if x5 < (x1.length : Int) then (if (!(((rd_T35 x0 x5).f0) == ((rd_T35 x1 x5).f0)) || (!(((rd_T35 x0 x5).f1) == ((rd_T35 x1 x5).f1)) || (!(((rd_T35 x0 x5).f2) == ((rd_T35 x1 x5).f2))))) = true then (some false) else (endonymref4_Same.l0 k x0 x1 (wrap64 (x5 + 1)))) else (none)) else (none)) else (some true)
def endonymref4_Same.f (k : Nat) (l0 : List (S35)) (l1 : List (S35)) : Option (Bool) := if (l0.length : Int) = (l1.length : Int) then (endonymref4_Same.l0 k l0 l1 0) else (some false)
theorem endonymref4_Same.mono_l : ∀ k, (∀ y0 y1 y2, LeO (endonymref4_Same.l0 k y0 y1 y2) (endonymref4_Same.l0 (k + 1) y0 y1 y2))
 | 0 => fun _ _ _ r h => by simp [endonymref4_Same.l0] at h
 | k + 1 => by
  have ih0 := endonymref4_Same.mono_l k
  ·intro y0 y1 y2
   unfold endonymref4_Same.l0
   repeat' first
   | (with_reducible exact ih0 _ _ _)
   | (with_reducible exact LeO.refl _)
   | (with_reducible exact LeO.none _)
   | (with_reducible refine LeO.ite ?_ ?_)
   | (with_reducible refine LeO.bind ?_ (fun _ => ?_))
   | exact ih0 _ _ _
   | exact LeO.none _
   | refine LeO.ite ?_ ?_
   | refine LeO.bind ?_ (fun _ => ?_)
theorem endonymref4_Same.mono : ∀ a0 a1 k, LeO (endonymref4_Same.f k a0 a1) (endonymref4_Same.f (k + 1) a0 a1) := by
 intro a0 a1 k
 have ih0 := endonymref4_Same.mono_l k
 unfold endonymref4_Same.f
 repeat' first
   | (with_reducible exact ih0 _ _ _)
   | (with_reducible exact LeO.refl _)
   | (with_reducible exact LeO.none _)
   | (with_reducible refine LeO.ite ?_ ?_)
   | (with_reducible refine LeO.bind ?_ (fun _ => ?_))
   | exact ih0 _ _ _
   | exact LeO.none _
   | refine LeO.ite ?_ ?_
   | refine LeO.bind ?_ (fun _ => ?_)
set_option maxHeartbeats 8000000 in
set_option maxRecDepth 100000 in
theorem endonymref4_Same.calls (k : Nat) (A0 : Option Addr) (c0 : Nat) (l0 : List (S35)) (A1 : Option Addr) (c1 : Nat) (l1 : List (S35)) (r : Bool) (w : World) (hr0 : Kd.C k35 w A0 l0.length l0) (hc0 : l0.length ≤ c0) (hr1 : Kd.C k35 w A1 l1.length l1) (hc1 : l1.length ≤ c1) (h : endonymref4_Same.f k l0 l1 = some r) :
  Calls Try.prog 12 #[.slice A0 l0.length c0, .slice A1 l1.length c1] w fun e w' => e = .returned (.bool r) ∧ Drawn0 w w' := by
 have hu35 := Try.underlying35
 have HR0 := Aside0.mk hr0
 have HC0 := Aside0.mk hc0
 clear hr0 hc0
 have HR1 := Aside0.mk hr1
 have HC1 := Aside0.mk hc1
 clear hr1 hc1
 have H : (if (l0.length : Int) = (l1.length : Int) then (endonymref4_Same.l0 k l0 l1 0) else (some false)) = some r := h
 clear h
 by_cases c3 : (l0.length : Int) = (l1.length : Int)
 ·rw [if_pos c3] at H
  have c3b0 : ((l0.length : Int) == (l1.length : Int)) = true := beq_iff_eq.mpr c3
  have c3b1 : ((l0.length : Int) != (l1.length : Int)) = false := bne_eq_false_iff_eq.mpr c3
  have c3b2 : (l0.length == l1.length) = true := by first | simpa using c3 | (simp at c3 ⊢; omega)
  clear c3
  have H' := Aside0.mk H
  clear H
  go_enter Try.func12, Try.ntmps12
  go_wp2
  repeat (go_quiet (fail); try go_wp2)
  go_loopg [5] k (fun kq v5 w' => ∃ (x5_1 : Int), v5 = .int .i64 x5_1 ∧ Aside0 (endonymref4_Same.l0 kq l0 l1 x5_1 = some r) ∧ Aside0 (kq ≤ k) ∧ Drawn0 w w')
  case atStart => exact ⟨(0), (by first | rfl | (simp; done) | (simp [*]; done)), H', ⟨Nat.le_refl _⟩, by repeat (first | exact Drawn0.refl _ | apply Drawn0.step)⟩
  case round =>
   clear H'
   (try clear c1); (try clear p2); (try clear c3); (try clear c3b0); (try clear c3b1); (try clear c3b2)
   obtain ⟨x5_1, rfl, HA, HK1, ⟨m1, rfl⟩⟩ := hrel
   cases gk with
   | zero => exact absurd HA.out (by simp [endonymref4_Same.l0])
   | succ k1 =>
    have H := HA.out
    clear HA
    simp only [endonymref4_Same.l0] at H
    by_cases c4 : x5_1 < (l0.length : Int)
    ·rw [if_pos c4] at H
     have c4b0 : decide (x5_1 < (l0.length : Int)) = true := decide_eq_true c4
     clear c4
     by_cases c5 : 0 ≤ x5_1
     ·rw [if_pos c5] at H
      have c5b0 : decide (0 ≤ x5_1) = true := decide_eq_true c5
      clear c5
      by_cases c6 : x5_1 < (l1.length : Int)
      ·rw [if_pos c6] at H
       have c6b0 : decide (x5_1 < (l1.length : Int)) = true := decide_eq_true c6
       clear c6
       by_cases c7 : (!(((rd_T35 l0 x5_1).f0) == ((rd_T35 l1 x5_1).f0)) || (!(((rd_T35 l0 x5_1).f1) == ((rd_T35 l1 x5_1).f1)) || (!(((rd_T35 l0 x5_1).f2) == ((rd_T35 l1 x5_1).f2))))) = true
       ·rw [if_pos c7] at H
        have c7b0 : (!(((rd_T35 l0 x5_1).f0) == ((rd_T35 l1 x5_1).f0)) || (!(((rd_T35 l0 x5_1).f1) == ((rd_T35 l1 x5_1).f1)) || (!(((rd_T35 l0 x5_1).f2) == ((rd_T35 l1 x5_1).f2))))) = true := c7
        clear c7
        obtain rfl := Option.some.inj H
        have p140 : 0 ≤ (x5_1 : Int) := of_decide_eq_true (by first | (with_reducible assumption) | assumption)
        have q140 : x5_1 < (l0.length : Int) := of_decide_eq_true (by first | (with_reducible assumption) | assumption)
        obtain ⟨ad140, e140, hx140_0, hx140_1, hx140_2⟩ := at_T35 HR0.out x5_1 p140 q140
        cases e140
        replace p140 := eq_true p140
        replace q140 := eq_true q140
        have p141 : 0 ≤ (x5_1 : Int) := of_decide_eq_true (by first | (with_reducible assumption) | assumption)
        have q141 : x5_1 < (l1.length : Int) := of_decide_eq_true (by first | (with_reducible assumption) | assumption)
        obtain ⟨ad141, e141, hx141_0, hx141_1, hx141_2⟩ := at_T35 HR1.out x5_1 p141 q141
        cases e141
        replace p141 := eq_true p141
        replace q141 := eq_true q141
        go_wp2
        repeat (go_quiet (fail); try go_wp2)
        go_ret
        exact ⟨by first | rfl | (simp; done) | (simp [*]; done), by repeat (first | exact Drawn0.refl _ | apply Drawn0.step)⟩
       ·rw [if_neg c7] at H
        have c7b0 : (!(((rd_T35 l0 x5_1).f0) == ((rd_T35 l1 x5_1).f0)) || (!(((rd_T35 l0 x5_1).f1) == ((rd_T35 l1 x5_1).f1)) || (!(((rd_T35 l0 x5_1).f2) == ((rd_T35 l1 x5_1).f2))))) = false := by simpa using c7
        clear c7
        have H' := Aside0.mk H
        clear H
        have p140 : 0 ≤ (x5_1 : Int) := of_decide_eq_true (by first | (with_reducible assumption) | assumption)
        have q140 : x5_1 < (l0.length : Int) := of_decide_eq_true (by first | (with_reducible assumption) | assumption)
        obtain ⟨ad140, e140, hx140_0, hx140_1, hx140_2⟩ := at_T35 HR0.out x5_1 p140 q140
        cases e140
        replace p140 := eq_true p140
        replace q140 := eq_true q140
        have p141 : 0 ≤ (x5_1 : Int) := of_decide_eq_true (by first | (with_reducible assumption) | assumption)
        have q141 : x5_1 < (l1.length : Int) := of_decide_eq_true (by first | (with_reducible assumption) | assumption)
        obtain ⟨ad141, e141, hx141_0, hx141_1, hx141_2⟩ := at_T35 HR1.out x5_1 p141 q141
        cases e141
        replace p141 := eq_true p141
        replace q141 := eq_true q141
        go_wp2
        repeat (go_quiet (fail); try go_wp2)
        go_roundg k1
        case measure => have := HK1.out; omega
        case rel => exact ⟨(wrap64 (x5_1 + 1)), (by first | rfl | (simp; done) | (simp [*]; done)), H', ⟨by have := HK1.out; omega⟩, by repeat (first | exact Drawn0.refl _ | apply Drawn0.step)⟩
      ·rw [if_neg c6] at H
       exact absurd H (by simp)
     ·rw [if_neg c5] at H
      exact absurd H (by simp)
    ·rw [if_neg c4] at H
     have c4b0 : decide (x5_1 < (l0.length : Int)) = false := decide_eq_false c4
     clear c4
     obtain rfl := Option.some.inj H
     go_wp2
     repeat (go_quiet (fail); try go_wp2)
     go_ret
     exact ⟨by first | rfl | (simp; done) | (simp [*]; done), by repeat (first | exact Drawn0.refl _ | apply Drawn0.step)⟩
 ·rw [if_neg c3] at H
  have c3b0 : ((l0.length : Int) == (l1.length : Int)) = false := beq_eq_false_iff_ne.mpr c3
  have c3b1 : ((l0.length : Int) != (l1.length : Int)) = true := bne_iff_ne.mpr c3
  have c3b2 : (l0.length == l1.length) = false := by first | simpa using c3 | (simp at c3 ⊢; omega)
  obtain rfl := Option.some.inj H
  go_enter Try.func12, Try.ntmps12
  go_wp2
  repeat (go_quiet (fail); try go_wp2)
  go_ret
  exact ⟨by first | rfl | (simp; done) | (simp [*]; done), by repeat (first | exact Drawn0.refl _ | apply Drawn0.step)⟩

end Go.Proofs.Ytiaodapgankjnaa.Q
