-- Written by wip/tools/pr.py of this session over the kit's print (widened); the words are the kit's print's own. Not trusted: Lean checks it.
import Derived.Test.YtiaodapgankjnaaQx0
namespace Go.Proofs.Ytiaodapgankjnaa.Q
open Go.RowKit Go.Proofs.YtiaodapgankjnaaW.PrintWords Go.Proofs.YtiaodapgankjnaaW.PrintLast Go.Proofs.YtiaodapgankjnaaW.PrintMore
attribute [local go_sem] max2_int min2_int max_two min_two max_three min_three max_four min_four   -- for this text's walks alone
set_option linter.unusedVariables false
set_option linter.unusedSimpArgs false

/-! ### endonymref4_Get: function 14 -/
def endonymref4_Get.l0 : Nat → List (S35) → Int → Int → Int → Option (Int)
 | 0, _, _, _, _ => none
 | k + 1, x0, x1, x2, x7 => if x7 < (x0.length : Int) then (if 0 ≤ x7 then (if x2 ≥ ((rd_T35 x0 x7).f0) then (if x2 ≤ ((rd_T35 x0 x7).f1) then (some ((rd_T35 x0 x7).f2)) else (endonymref4_Get.l0 k x0 x1 x2 (wrap64 (x7 + 1)))) else (endonymref4_Get.l0 k x0 x1 x2 (wrap64 (x7 + 1)))) else (none)) else (some x1)
def endonymref4_Get.f (k : Nat) (l0 : List (S35)) (a1 : Int) (a2 : Int) : Option (Int) := endonymref4_Get.l0 k l0 a1 a2 0
theorem endonymref4_Get.mono_l : ∀ k, (∀ y0 y1 y2 y3, LeO (endonymref4_Get.l0 k y0 y1 y2 y3) (endonymref4_Get.l0 (k + 1) y0 y1 y2 y3))
 | 0 => fun _ _ _ _ r h => by simp [endonymref4_Get.l0] at h
 | k + 1 => by
  have ih0 := endonymref4_Get.mono_l k
  ·intro y0 y1 y2 y3
   unfold endonymref4_Get.l0
   repeat' first
   | (with_reducible exact ih0 _ _ _ _)
   | (with_reducible exact LeO.refl _)
   | (with_reducible exact LeO.none _)
   | (with_reducible refine LeO.ite ?_ ?_)
   | (with_reducible refine LeO.bind ?_ (fun _ => ?_))
   | exact ih0 _ _ _ _
   | exact LeO.none _
   | refine LeO.ite ?_ ?_
   | refine LeO.bind ?_ (fun _ => ?_)
theorem endonymref4_Get.mono : ∀ a0 a1 a2 k, LeO (endonymref4_Get.f k a0 a1 a2) (endonymref4_Get.f (k + 1) a0 a1 a2) := by
 intro a0 a1 a2 k
 have ih0 := endonymref4_Get.mono_l k
 unfold endonymref4_Get.f
 repeat' first
   | (with_reducible exact ih0 _ _ _ _)
   | (with_reducible exact LeO.refl _)
   | (with_reducible exact LeO.none _)
   | (with_reducible refine LeO.ite ?_ ?_)
   | (with_reducible refine LeO.bind ?_ (fun _ => ?_))
   | exact ih0 _ _ _ _
   | exact LeO.none _
   | refine LeO.ite ?_ ?_
   | refine LeO.bind ?_ (fun _ => ?_)
set_option maxHeartbeats 8000000 in
set_option maxRecDepth 100000 in
theorem endonymref4_Get.calls (k : Nat) (A0 : Option Addr) (c0 : Nat) (l0 : List (S35)) (a1 : Int) (a2 : Int) (r : Int) (w : World) (hr0 : Kd.C k35 w A0 l0.length l0) (hc0 : l0.length ≤ c0) (h : endonymref4_Get.f k l0 a1 a2 = some r) :
  Calls Try.prog 14 #[.slice A0 l0.length c0, .int .i64 a1, .int .i64 a2] w fun e w' => e = .returned (.int .i64 r) ∧ Drawn0 w w' := by
 have HR0 := Aside0.mk hr0
 have HC0 := Aside0.mk hc0
 clear hr0 hc0
 have H : (endonymref4_Get.l0 k l0 a1 a2 0) = some r := h
 clear h
 have H' := Aside0.mk H
 clear H
 go_enter Try.func14, Try.ntmps14
 go_wp2
 go_loopg [7] k (fun kq v7 w' => ∃ (x7_1 : Int), v7 = .int .i64 x7_1 ∧ Aside0 (endonymref4_Get.l0 kq l0 a1 a2 x7_1 = some r) ∧ Aside0 (kq ≤ k) ∧ Drawn0 w w')
 case atStart => exact ⟨(0), (by first | rfl | (simp; done) | (simp [*]; done)), H', ⟨Nat.le_refl _⟩, by repeat (first | exact Drawn0.refl _ | apply Drawn0.step)⟩
 case round =>
  clear H'
  (try clear c1); (try clear p2)
  obtain ⟨x7_1, rfl, HA, HK1, ⟨m1, rfl⟩⟩ := hrel
  cases gk with
  | zero => exact absurd HA.out (by simp [endonymref4_Get.l0])
  | succ k1 =>
   have H := HA.out
   clear HA
   simp only [endonymref4_Get.l0] at H
   by_cases c4 : x7_1 < (l0.length : Int)
   ·rw [if_pos c4] at H
    have c4b0 : decide (x7_1 < (l0.length : Int)) = true := decide_eq_true c4
    clear c4
    by_cases c5 : 0 ≤ x7_1
    ·rw [if_pos c5] at H
     have c5b0 : decide (0 ≤ x7_1) = true := decide_eq_true c5
     clear c5
     by_cases c6 : a2 ≥ ((rd_T35 l0 x7_1).f0)
     ·rw [if_pos c6] at H
      have c6b0 : decide (((rd_T35 l0 x7_1).f0) ≤ a2) = true := decide_eq_true c6
      clear c6
      by_cases c7 : a2 ≤ ((rd_T35 l0 x7_1).f1)
      ·rw [if_pos c7] at H
       have c7b0 : decide (a2 ≤ ((rd_T35 l0 x7_1).f1)) = true := decide_eq_true c7
       clear c7
       obtain rfl := Option.some.inj H
       have p142 : 0 ≤ (x7_1 : Int) := of_decide_eq_true (by first | (with_reducible assumption) | assumption)
       have q142 : x7_1 < (l0.length : Int) := of_decide_eq_true (by first | (with_reducible assumption) | assumption)
       obtain ⟨ad142, e142, hx142_0, hx142_1, hx142_2⟩ := at_T35 HR0.out x7_1 p142 q142
       cases e142
       replace p142 := eq_true p142
       replace q142 := eq_true q142
       have p143 : 0 ≤ (x7_1 : Int) := of_decide_eq_true (by first | (with_reducible assumption) | assumption)
       have q143 : x7_1 < (l0.length : Int) := of_decide_eq_true (by first | (with_reducible assumption) | assumption)
       obtain ⟨ad143, e143, hx143_0, hx143_1, hx143_2⟩ := at_T35 HR0.out x7_1 p143 q143
       obtain rfl : ad142 = ad143 := (by injection e143)
       replace p143 := eq_true p143
       replace q143 := eq_true q143
       have p144 : 0 ≤ (x7_1 : Int) := of_decide_eq_true (by first | (with_reducible assumption) | assumption)
       have q144 : x7_1 < (l0.length : Int) := of_decide_eq_true (by first | (with_reducible assumption) | assumption)
       obtain ⟨ad144, e144, hx144_0, hx144_1, hx144_2⟩ := at_T35 HR0.out x7_1 p144 q144
       obtain rfl : ad142 = ad144 := (by injection e144)
       replace p144 := eq_true p144
       replace q144 := eq_true q144
       go_wp2
       go_ret
       exact ⟨by first | rfl | (simp; done) | (simp [*]; done), by repeat (first | exact Drawn0.refl _ | apply Drawn0.step)⟩
      ·rw [if_neg c7] at H
       have c7b0 : decide (a2 ≤ ((rd_T35 l0 x7_1).f1)) = false := decide_eq_false c7
       clear c7
       have H' := Aside0.mk H
       clear H
       have p142 : 0 ≤ (x7_1 : Int) := of_decide_eq_true (by first | (with_reducible assumption) | assumption)
       have q142 : x7_1 < (l0.length : Int) := of_decide_eq_true (by first | (with_reducible assumption) | assumption)
       obtain ⟨ad142, e142, hx142_0, hx142_1, hx142_2⟩ := at_T35 HR0.out x7_1 p142 q142
       cases e142
       replace p142 := eq_true p142
       replace q142 := eq_true q142
       have p143 : 0 ≤ (x7_1 : Int) := of_decide_eq_true (by first | (with_reducible assumption) | assumption)
       have q143 : x7_1 < (l0.length : Int) := of_decide_eq_true (by first | (with_reducible assumption) | assumption)
       obtain ⟨ad143, e143, hx143_0, hx143_1, hx143_2⟩ := at_T35 HR0.out x7_1 p143 q143
       obtain rfl : ad142 = ad143 := (by injection e143)
       replace p143 := eq_true p143
       replace q143 := eq_true q143
       go_wp2
       go_roundg k1
       case measure => have := HK1.out; omega
       case rel => exact ⟨(wrap64 (x7_1 + 1)), (by first | rfl | (simp; done) | (simp [*]; done)), H', ⟨by have := HK1.out; omega⟩, by repeat (first | exact Drawn0.refl _ | apply Drawn0.step)⟩
     ·rw [if_neg c6] at H
      have c6b0 : decide (((rd_T35 l0 x7_1).f0) ≤ a2) = false := decide_eq_false c6
      clear c6
      have H' := Aside0.mk H
      clear H
      have p142 : 0 ≤ (x7_1 : Int) := of_decide_eq_true (by first | (with_reducible assumption) | assumption)
      have q142 : x7_1 < (l0.length : Int) := of_decide_eq_true (by first | (with_reducible assumption) | assumption)
      obtain ⟨ad142, e142, hx142_0, hx142_1, hx142_2⟩ := at_T35 HR0.out x7_1 p142 q142
      cases e142
      replace p142 := eq_true p142
      replace q142 := eq_true q142
      go_wp2
      go_roundg k1
      case measure => have := HK1.out; omega
      case rel => exact ⟨(wrap64 (x7_1 + 1)), (by first | rfl | (simp; done) | (simp [*]; done)), H', ⟨by have := HK1.out; omega⟩, by repeat (first | exact Drawn0.refl _ | apply Drawn0.step)⟩
    ·rw [if_neg c5] at H
     exact absurd H (by simp)
   ·rw [if_neg c4] at H
    have c4b0 : decide (x7_1 < (l0.length : Int)) = false := decide_eq_false c4
    clear c4
    obtain rfl := Option.some.inj H
    go_wp2
    go_ret
    exact ⟨by first | rfl | (simp; done) | (simp [*]; done), by repeat (first | exact Drawn0.refl _ | apply Drawn0.step)⟩

/-! ### trie_Trie_Default: function 15 -/
def trie_Trie_Default.f (l0 : List (S57)) : Option (Int) := if 0 < (l0.length : Int) then (some ((rd_T57 l0 0).f0)) else (none)
set_option maxHeartbeats 8000000 in
set_option maxRecDepth 100000 in
theorem trie_Trie_Default.calls (A0 : Option Addr) (l0 : List (S57)) (r : Int) (w : World) (hr0 : Kd.PC k57 w A0 l0.length l0) (h : trie_Trie_Default.f l0 = some r) :
  Calls Try.prog 15 #[.pointer A0] w fun e w' => e = .returned (.int .i64 r) ∧ Drawn0 w w' := by
 have HR0 := Aside0.mk hr0
 clear hr0
 have H : (if 0 < (l0.length : Int) then (some ((rd_T57 l0 0).f0)) else (none)) = some r := h
 clear h
 by_cases c2 : 0 < (l0.length : Int)
 ·rw [if_pos c2] at H
  have c2b0 : decide (0 < (l0.length : Int)) = true := decide_eq_true c2
  have c2b1 : decide (0 < l0.length) = true := decide_eq_true (by omega)
  clear c2
  obtain rfl := Option.some.inj H
  have p145 : 0 ≤ (0 : Int) := (by omega)
  have q145 : 0 < (l0.length : Int) := of_decide_eq_true (by first | (with_reducible assumption) | assumption)
  obtain ⟨ad145, A145_1, c145_1, A145_2, c145_2, e145, hx145_0, hx145_1, hx145_2, hl145_1, hi145_1, hl145_2, hi145_2⟩ := at_T57 (Kd.PC_C HR0.out) 0 p145 q145
  cases e145
  have qi145 : (0 < l0.length) = True := eq_true (by omega)
  (try rw [show ((0 : Int)).toNat = 0 from rfl] at hx145_0)
  (try rw [show 0 * 3 = 0 from rfl] at hx145_0)
  (try rw [Addr.add_zero'] at hx145_0)
  (try rw [show ((0 : Int)).toNat = 0 from rfl] at hx145_1)
  (try rw [show 0 * 3 = 0 from rfl] at hx145_1)
  (try rw [Addr.add_zero'] at hx145_1)
  (try rw [show ((0 : Int)).toNat = 0 from rfl] at hx145_2)
  (try rw [show 0 * 3 = 0 from rfl] at hx145_2)
  (try rw [Addr.add_zero'] at hx145_2)
  have HR145_1 := Aside0.mk hi145_1
  have HC145_1 := Aside0.mk hl145_1
  clear hi145_1 hl145_1
  have HR145_2 := Aside0.mk hi145_2
  have HC145_2 := Aside0.mk hl145_2
  clear hi145_2 hl145_2
  replace p145 := eq_true p145
  replace q145 := eq_true q145
  go_enter Try.func15, Try.ntmps15
  go_wp2
  go_ret
  exact ⟨by first | rfl | (simp; done) | (simp [*]; done), by repeat (first | exact Drawn0.refl _ | apply Drawn0.step)⟩
 ·rw [if_neg c2] at H
  exact absurd H (by simp)

end Go.Proofs.Ytiaodapgankjnaa.Q
