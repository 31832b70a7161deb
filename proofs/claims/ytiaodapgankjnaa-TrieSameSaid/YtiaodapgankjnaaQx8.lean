-- Written by wip/tools/pr.py of this session over the kit's print (widened); the words are the kit's print's own. Not trusted: Lean checks it.
import Derived.Test.YtiaodapgankjnaaQx0
namespace Go.Proofs.Ytiaodapgankjnaa.Q
open Go.RowKit Go.Proofs.YtiaodapgankjnaaW.PrintWords Go.Proofs.YtiaodapgankjnaaW.PrintLast Go.Proofs.YtiaodapgankjnaaW.PrintMore
attribute [local go_sem] max2_int min2_int max_two min_two max_three min_three max_four min_four   -- for this text's walks alone
set_option linter.unusedVariables false
set_option linter.unusedSimpArgs false

/-! ### endonymref4_Get: function 14 -/
def endonymref4_Get.l0 : Nat → List (S35) → Int → Int → Int → Option (Int)
 | 0, _, _, _, _ => none
 | k + 1, x0, x1, x2, x7 => if x7 < (x0.length : Int) then (if 0 ≤ x7 then (if x2 ≥ ((rd_T35 x0 x7).f0) then (if x2 ≤ ((rd_T35 x0 x7).f1) then (some ((rd_T35 x0 x7).f2)) else (endonymref4_Get.l0 k x0 x1 x2 (wrap64 (x7 + 1)))) else (endonymref4_Get.l0 k x0 x1 x2 (wrap64 (x7 + 1)))) else (none)) else (some x1)
def endonymref4_Get.f (k : Nat) (l0 : List (S35)) (a1 : Int) (a2 : Int) : Option (Int) := endonymref4_Get.l0 k l0 a1 a2 0
theorem endonymref4_Get.mono_l : ∀ k, (∀ y0 y1 y2 y3, LeO (endonymref4_Get.l0 k y0 y1 y2 y3) (endonymref4_Get.l0 (k + 1) y0 y1 y2 y3))
 | 0 => fun _ _ _ _ r h => by simp [endonymref4_Get.l0] at h
 | k + 1 => by
  have ih0 := endonymref4_Get.mono_l k
  ·intro y0 y1 y2 y3
   unfold endonymref4_Get.l0
   repeat' first
   | (with_reducible exact ih0 _ _ _ _)
   | (with_reducible exact LeO.refl _)
   | (with_reducible exact LeO.none _)
   | (with_reducible refine LeO.ite ?_ ?_)
   | (with_reducible refine LeO.bind ?_ (fun _ => ?_))
   | exact ih0 _ _ _ _
   | exact LeO.none _
   | refine LeO.ite ?_ ?_
   | refine LeO.bind ?_ (fun _ => ?_)
theorem endonymref4_Get.mono : ∀ a0 a1 a2 k, LeO (endonymref4_Get.f k a0 a1 a2) (endonymref4_Get.f (k + 1) a0 a1 a2) := by
 intro a0 a1 a2 k
 have ih0 := endonymref4_Get.mono_l k
 unfold endonymref4_Get.f
 repeat' first
   | (with_reducible exact ih0 _ _ _ _)
   | (with_reducible exact LeO.refl _)
   | (with_reducible exact LeO.none _)
   | (with_reducible refine LeO.ite ?_ ?_)
   | (with_reducible refine LeO.bind ?_ (fun _ => ?_))
   | exact ih0 _ _ _ _
   | exact LeO.none _
   | refine LeO.ite ?_ ?_
   | refine LeO.bind ?_ (fun _ => ?_)
set_option maxHeartbeats 8000000 in
set_option maxRecDepth 100000 in
theorem endonymref4_Get.calls (k : Nat) (A0 : Option Addr) (c0 : Nat) (l0 : List (S35)) (a1 : Int) (a2 : Int) (r : Int) (w : World) (hr0 : Kd.C k35 w A0 l0.length l0) (hc0 : l0.length ≤ c0) (h : endonymref4_Get.f k l0 a1 a2 = some r) :
  Calls Try.prog 14 #[.slice A0 l0.length c0, .int .i64 a1, .int .i64 a2] w fun e w' => e = .returned (.int .i64 r) ∧ Drawn0 w w' := by
 have HR0 := Aside0.mk hr0
 have HC0 := Aside0.mk hc0
 clear hr0 hc0
 have H : (endonymref4_Get.l0 k l0 a1 a2 0) = some r := h
 clear h
 have H' := Aside0.mk H
 clear H
 go_enter Try.func14, Try.ntmps14
 go_wp2
 go_loopg [7] k (fun kq v7 w' => ∃ (x7_1 : Int), v7 = .int .i64 x7_1 ∧ Aside0 (endonymref4_Get.l0 kq l0 a1 a2 x7_1 = some r) ∧ Aside0 (kq ≤ k) ∧ Drawn0 w w')
 case atStart => exact ⟨(0), (by first | rfl | (simp; done) | (simp [*]; done)), H', ⟨Nat.le_refl _⟩, by repeat (first | exact Drawn0.refl _ | apply Drawn0.step)⟩
 case round =>
  clear H'
  try clear c1
  try clear p2
  obtain ⟨x7_1, rfl, HA, HK1, ⟨m1, rfl⟩⟩ := hrel
  cases gk with
  | zero => exact absurd HA.out (by simp [endonymref4_Get.l0])
  | succ k1 =>
   have H := HA.out
   clear HA
   simp only [endonymref4_Get.l0] at H
   by_cases c4 : x7_1 < (l0.length : Int)
   ·rw [if_pos c4] at H
    have c4b0 : decide (x7_1 < (l0.length : Int)) = true := decide_eq_true c4
    clear c4
    by_cases c5 : 0 ≤ x7_1
    ·rw [if_pos c5] at H
     have c5b0 : decide (0 ≤ x7_1) = true := decide_eq_true c5
     clear c5
     by_cases c6 : a2 ≥ ((rd_T35 l0 x7_1).f0)
     ·rw [if_pos c6] at H
      have c6b0 : decide (((rd_T35 l0 x7_1).f0) ≤ a2) = true := decide_eq_true c6
      clear c6
      by_cases c7 : a2 ≤ ((rd_T35 l0 x7_1).f1)
      ·rw [if_pos c7] at H
       have c7b0 : decide (a2 ≤ ((rd_T35 l0 x7_1).f1)) = true := decide_eq_true c7
       clear c7
       obtain rfl := Option.some.inj H
       have p165 : 0 ≤ (x7_1 : Int) := of_decide_eq_true (by first | (with_reducible assumption) | assumption)
       have q165 : x7_1 < (l0.length : Int) := of_decide_eq_true (by first | (with_reducible assumption) | assumption)
       obtain ⟨ad165, e165, hx165_0, hx165_1, hx165_2⟩ := at_T35 HR0.out x7_1 p165 q165
       cases e165
       replace p165 := eq_true p165
       replace q165 := eq_true q165
       have p166 : 0 ≤ (x7_1 : Int) := of_decide_eq_true (by first | (with_reducible assumption) | assumption)
       have q166 : x7_1 < (l0.length : Int) := of_decide_eq_true (by first | (with_reducible assumption) | assumption)
       obtain ⟨ad166, e166, hx166_0, hx166_1, hx166_2⟩ := at_T35 HR0.out x7_1 p166 q166
       obtain rfl : ad165 = ad166 := (by injection e166)
       replace p166 := eq_true p166
       replace q166 := eq_true q166
       have p167 : 0 ≤ (x7_1 : Int) := of_decide_eq_true (by first | (with_reducible assumption) | assumption)
       have q167 : x7_1 < (l0.length : Int) := of_decide_eq_true (by first | (with_reducible assumption) | assumption)
       obtain ⟨ad167, e167, hx167_0, hx167_1, hx167_2⟩ := at_T35 HR0.out x7_1 p167 q167
       obtain rfl : ad165 = ad167 := (by injection e167)
       replace p167 := eq_true p167
       replace q167 := eq_true q167
       go_wp2
       go_ret
       exact ⟨by first | rfl | (simp; done) | (simp [*]; done), by repeat (first | exact Drawn0.refl _ | apply Drawn0.step)⟩
      ·rw [if_neg c7] at H
       have c7b0 : decide (a2 ≤ ((rd_T35 l0 x7_1).f1)) = false := decide_eq_false c7
       clear c7
       have H' := Aside0.mk H
       clear H
       have p165 : 0 ≤ (x7_1 : Int) := of_decide_eq_true (by first | (with_reducible assumption) | assumption)
       have q165 : x7_1 < (l0.length : Int) := of_decide_eq_true (by first | (with_reducible assumption) | assumption)
       obtain ⟨ad165, e165, hx165_0, hx165_1, hx165_2⟩ := at_T35 HR0.out x7_1 p165 q165
       cases e165
       replace p165 := eq_true p165
       replace q165 := eq_true q165
       have p166 : 0 ≤ (x7_1 : Int) := of_decide_eq_true (by first | (with_reducible assumption) | assumption)
       have q166 : x7_1 < (l0.length : Int) := of_decide_eq_true (by first | (with_reducible assumption) | assumption)
       obtain ⟨ad166, e166, hx166_0, hx166_1, hx166_2⟩ := at_T35 HR0.out x7_1 p166 q166
       obtain rfl : ad165 = ad166 := (by injection e166)
       replace p166 := eq_true p166
       replace q166 := eq_true q166
       go_wp2
       go_roundg k1
       case measure => have := HK1.out; omega
       case rel => exact ⟨(wrap64 (x7_1 + 1)), (by first | rfl | (simp; done) | (simp [*]; done)), H', ⟨by have := HK1.out; omega⟩, by repeat (first | exact Drawn0.refl _ | apply Drawn0.step)⟩
     ·rw [if_neg c6] at H
      have c6b0 : decide (((rd_T35 l0 x7_1).f0) ≤ a2) = false := decide_eq_false c6
      clear c6
      have H' := Aside0.mk H
      clear H
      have p165 : 0 ≤ (x7_1 : Int) := of_decide_eq_true (by first | (with_reducible assumption) | assumption)
      have q165 : x7_1 < (l0.length : Int) := of_decide_eq_true (by first | (with_reducible assumption) | assumption)
      obtain ⟨ad165, e165, hx165_0, hx165_1, hx165_2⟩ := at_T35 HR0.out x7_1 p165 q165
      cases e165
      replace p165 := eq_true p165
      replace q165 := eq_true q165
      go_wp2
      go_roundg k1
      case measure => have := HK1.out; omega
      case rel => exact ⟨(wrap64 (x7_1 + 1)), (by first | rfl | (simp; done) | (simp [*]; done)), H', ⟨by have := HK1.out; omega⟩, by repeat (first | exact Drawn0.refl _ | apply Drawn0.step)⟩
    ·rw [if_neg c5] at H
     exact absurd H (by simp)
   ·rw [if_neg c4] at H
    have c4b0 : decide (x7_1 < (l0.length : Int)) = false := decide_eq_false c4
    clear c4
    obtain rfl := Option.some.inj H
    go_wp2
    go_ret
    exact ⟨by first | rfl | (simp; done) | (simp [*]; done), by repeat (first | exact Drawn0.refl _ | apply Drawn0.step)⟩

/-! ### trie_Trie_Default: function 15 -/
def trie_Trie_Default.f (l0 : List (S57)) : Option (Int) := if 0 < (l0.length : Int) then (some ((rd_T57 l0 0).f0)) else (none)
set_option maxHeartbeats 8000000 in
set_option maxRecDepth 100000 in
theorem trie_Trie_Default.calls (A0 : Option Addr) (l0 : List (S57)) (r : Int) (w : World) (hr0 : Kd.PC k57 w A0 l0.length l0) (h : trie_Trie_Default.f l0 = some r) :
  Calls Try.prog 15 #[.pointer A0] w fun e w' => e = .returned (.int .i64 r) ∧ Drawn0 w w' := by
 have HR0 := Aside0.mk hr0
 clear hr0
 have H : (if 0 < (l0.length : Int) then (some ((rd_T57 l0 0).f0)) else (none)) = some r := h
 clear h
 by_cases c2 : 0 < (l0.length : Int)
 ·rw [if_pos c2] at H
  have c2b0 : decide (0 < (l0.length : Int)) = true := decide_eq_true c2
  have c2b1 : decide (0 < l0.length) = true := decide_eq_true (by omega)
  clear c2
  obtain rfl := Option.some.inj H
  have p168 : 0 ≤ (0 : Int) := (by omega)
  have q168 : 0 < (l0.length : Int) := of_decide_eq_true (by first | (with_reducible assumption) | assumption)
  obtain ⟨ad168, A168_1, c168_1, A168_2, c168_2, e168, hx168_0, hx168_1, hx168_2, hl168_1, hi168_1, hl168_2, hi168_2⟩ := at_T57 (Kd.PC_C HR0.out) 0 p168 q168
  cases e168
  have qi168 : (0 < l0.length) = True := eq_true (by omega)
  (try rw [show ((0 : Int)).toNat = 0 from rfl] at hx168_0)
  (try rw [show 0 * 3 = 0 from rfl] at hx168_0)
  (try rw [Addr.add_zero'] at hx168_0)
  (try rw [show ((0 : Int)).toNat = 0 from rfl] at hx168_1)
  (try rw [show 0 * 3 = 0 from rfl] at hx168_1)
  (try rw [Addr.add_zero'] at hx168_1)
  (try rw [show ((0 : Int)).toNat = 0 from rfl] at hx168_2)
  (try rw [show 0 * 3 = 0 from rfl] at hx168_2)
  (try rw [Addr.add_zero'] at hx168_2)
  have HR168_1 := Aside0.mk hi168_1
  have HC168_1 := Aside0.mk hl168_1
  clear hi168_1 hl168_1
  have HR168_2 := Aside0.mk hi168_2
  have HC168_2 := Aside0.mk hl168_2
  clear hi168_2 hl168_2
  replace p168 := eq_true p168
  replace q168 := eq_true q168
  go_enter Try.func15, Try.ntmps15
  go_wp2
  go_ret
  exact ⟨by first | rfl | (simp; done) | (simp [*]; done), by repeat (first | exact Drawn0.refl _ | apply Drawn0.step)⟩
 ·rw [if_neg c2] at H
  exact absurd H (by simp)

-- NOT PRINTED: function 3 (endonymlaw4_TrieBuilds)

/-! ### endonymref4_Ranges: function 16 -/
def endonymref4_Ranges.l0 : Nat → List (S35) → Int → List (S35) → Int → Option ((List (S35)))
 | 0, _, _, _, _ => none
 | k + 1, x0, x1, x5, x6 => if x6 < (x0.length : Int) then (if 0 ≤ x6 then (if ((rd_T35 x0 x6).f2) = x1 then (endonymref4_Ranges.l0 k x0 x1 x5 (wrap64 (x6 + 1))) else (if (x5.length : Int) > 0 then (if 0 ≤ (wrap64 ((x5.length : Int) - 1)) then (if (wrap64 ((x5.length : Int) - 1)) < (x5.length : Int) then (if ((rd_T35 x5 (wrap64 ((x5.length : Int) - 1))).f2) = ((rd_T35 x0 x6).f2) then (if (wrap64 (((rd_T35 x5 (wrap64 ((x5.length : Int) - 1))).f1) + 1)) = ((rd_T35 x0 x6).f0) then (endonymref4_Ranges.l0 k x0 x1 (x5.set ((wrap64 ((x5.length : Int) - 1)) : Int).toNat (⟨(rd_T35 x5 (wrap64 ((x5.length : Int) - 1))).f0, (rd_T35 x0 x6).f1, (rd_T35 x5 (wrap64 ((x5.length : Int) - 1))).f2⟩ : S35)) (wrap64 (x6 + 1))) else (if x5.length < 5864062014805 then (endonymref4_Ranges.l0 k x0 x1 (x5 ++ [(⟨(rd_T35 x0 x6).f0, (rd_T35 x0 x6).f1, (rd_T35 x0 x6).f2⟩ : S35)]) (wrap64 (x6 + 1))) else (none))) else (if x5.length < 5864062014805 then (endonymref4_Ranges.l0 k x0 x1 (x5 ++ [(⟨(rd_T35 x0 x6).f0, (rd_T35 x0 x6).f1, (rd_T35 x0 x6).f2⟩ : S35)]) (wrap64 (x6 + 1))) else (none))) else (none)) else (none)) else (if x5.length < 5864062014805 then (endonymref4_Ranges.l0 k x0 x1 (x5 ++ [(⟨(rd_T35 x0 x6).f0, (rd_T35 x0 x6).f1, (rd_T35 x0 x6).f2⟩ : S35)]) (wrap64 (x6 + 1))) else (none)))) else (none)) else (some x5)
def endonymref4_Ranges.f (k : Nat) (l0 : List (S35)) (a1 : Int) : Option ((List (S35))) := endonymref4_Ranges.l0 k l0 a1 ([] : List (S35)) 0
theorem endonymref4_Ranges.mono_l : ∀ k, (∀ y0 y1 y2 y3, LeO (endonymref4_Ranges.l0 k y0 y1 y2 y3) (endonymref4_Ranges.l0 (k + 1) y0 y1 y2 y3))
 | 0 => fun _ _ _ _ r h => by simp [endonymref4_Ranges.l0] at h
 | k + 1 => by
  have ih0 := endonymref4_Ranges.mono_l k
  ·intro y0 y1 y2 y3
   unfold endonymref4_Ranges.l0
   repeat' first
   | (with_reducible exact ih0 _ _ _ _)
   | (with_reducible exact LeO.refl _)
   | (with_reducible exact LeO.none _)
   | (with_reducible refine LeO.ite ?_ ?_)
   | (with_reducible refine LeO.bind ?_ (fun _ => ?_))
   | exact ih0 _ _ _ _
   | exact LeO.none _
   | refine LeO.ite ?_ ?_
   | refine LeO.bind ?_ (fun _ => ?_)
theorem endonymref4_Ranges.mono : ∀ a0 a1 k, LeO (endonymref4_Ranges.f k a0 a1) (endonymref4_Ranges.f (k + 1) a0 a1) := by
 intro a0 a1 k
 have ih0 := endonymref4_Ranges.mono_l k
 unfold endonymref4_Ranges.f
 repeat' first
   | (with_reducible exact ih0 _ _ _ _)
   | (with_reducible exact LeO.refl _)
   | (with_reducible exact LeO.none _)
   | (with_reducible refine LeO.ite ?_ ?_)
   | (with_reducible refine LeO.bind ?_ (fun _ => ?_))
   | exact ih0 _ _ _ _
   | exact LeO.none _
   | refine LeO.ite ?_ ?_
   | refine LeO.bind ?_ (fun _ => ?_)
set_option maxHeartbeats 8000000 in
set_option maxRecDepth 100000 in
theorem endonymref4_Ranges.calls (k : Nat) (A0 : Option Addr) (c0 : Nat) (l0 : List (S35)) (a1 : Int) (r : List (S35)) (w : World) (hr0 : Kd.C k35 w A0 l0.length l0) (hc0 : l0.length ≤ c0) (h : endonymref4_Ranges.f k l0 a1 = some r) :
  Calls Try.prog 16 #[.slice A0 l0.length c0, .int .i64 a1] w fun e w' => ∃ v0_ : Value, e = .returned (v0_) ∧ Kd.R k35 35 w' w.heap.size (fun _ => True) v0_ r ∧ Below w.heap.size w w' := by
 have hu35 := Try.underlying35
 have HR0 := Aside0.mk hr0
 have HC0 := Aside0.mk hc0
 clear hr0 hc0
 have HB := Aside0.mk (Below.refl w.heap.size w)
 have H : (endonymref4_Ranges.l0 k l0 a1 ([] : List (S35)) 0) = some r := h
 clear h
 have H' := Aside0.mk H
 clear H
 go_enter Try.func16, Try.ntmps16
 go_wp2
 repeat (go_quiet (fail); try go_wp2)
 go_loopg [5, 6] k (fun kq v5 v6 w' => ∃ (x5_1 : List (S35)) (x6_1 : Int), v6 = .int .i64 x6_1 ∧ Aside0 (endonymref4_Ranges.l0 kq l0 a1 x5_1 x6_1 = some r) ∧ Aside0 (kq ≤ k) ∧ Aside0 (Kd.R k35 35 w' w.heap.size (fun _ => True) v5 x5_1) ∧ Aside0 (Below w.heap.size w w'))
 case atStart => exact ⟨(([] : List (S35))), (0), (by first | rfl | (simp; done) | (simp [*]; done)), H', ⟨Nat.le_refl _⟩, ⟨by first | exact Kd.R_nil _ _ _ _ _ | exact Kd.N_nil _ _ _ _ _ | exact Kd.V_nil _ _ _ _ _ | exact Kd.Q_nil _ _ _ _ _ | exact Kd.S_nil _ _ _ _ _⟩, ⟨by repeat (first | (with_reducible first | exact HB.out | apply below_alloc | apply pw_below_drewN | apply below_drew1) | exact HB.out)⟩⟩
 case round =>
  clear H'
  try clear c1
  try clear p2
  obtain ⟨x5_1, x6_1, rfl, HA, HK1, HO_5, HB⟩ := hrel
  cases gk with
  | zero => exact absurd HA.out (by simp [endonymref4_Ranges.l0])
  | succ k1 =>
   have H := HA.out
   clear HA
   simp only [endonymref4_Ranges.l0] at H
   by_cases c3 : x6_1 < (l0.length : Int)
   ·rw [if_pos c3] at H
    have c3b0 : decide (x6_1 < (l0.length : Int)) = true := decide_eq_true c3
    clear c3
    by_cases c4 : 0 ≤ x6_1
    ·rw [if_pos c4] at H
     have c4b0 : decide (0 ≤ x6_1) = true := decide_eq_true c4
     clear c4
     by_cases c5 : ((rd_T35 l0 x6_1).f2) = a1
     ·rw [if_pos c5] at H
      have c5b0 : (((rd_T35 l0 x6_1).f2) == a1) = true := beq_iff_eq.mpr c5
      have c5b1 : (((rd_T35 l0 x6_1).f2) != a1) = false := bne_eq_false_iff_eq.mpr c5
      clear c5
      have H' := Aside0.mk H
      clear H
      obtain ⟨Ao6, co6, eo6⟩ := Kd.R_slice HO_5.out
      subst eo6
      have p216 : 0 ≤ (x6_1 : Int) := of_decide_eq_true (by first | (with_reducible assumption) | assumption)
      have q216 : x6_1 < (l0.length : Int) := of_decide_eq_true (by first | (with_reducible assumption) | assumption)
      obtain ⟨ad216, e216, hx216_0, hx216_1, hx216_2⟩ := at_T35 HR0.out x6_1 p216 q216
      cases e216
      replace hx216_0 := (HB.out.cell (World.block_lt_of_cell? w _ hx216_0)).trans hx216_0
      replace hx216_1 := (HB.out.cell (World.block_lt_of_cell? w _ hx216_1)).trans hx216_1
      replace hx216_2 := (HB.out.cell (World.block_lt_of_cell? w _ hx216_2)).trans hx216_2
      replace p216 := eq_true p216
      replace q216 := eq_true q216
      go_wp2
      repeat (go_quiet (fail); try go_wp2)
      go_roundg k1
      case measure => have := HK1.out; omega
      case rel => exact ⟨(x5_1), (wrap64 (x6_1 + 1)), (by first | rfl | (simp; done) | (simp [*]; done)), H', ⟨by have := HK1.out; omega⟩, ⟨by (with_reducible repeat (first | apply Kd.R_alloc | apply Kd.R_drewN | apply Kd.R_drew)); exact HO_5.out⟩, ⟨by repeat (first | (with_reducible first | exact HB.out | apply below_alloc | apply pw_below_drewN | apply below_drew1) | exact HB.out)⟩⟩
     ·rw [if_neg c5] at H
      have c5b0 : (((rd_T35 l0 x6_1).f2) == a1) = false := beq_eq_false_iff_ne.mpr c5
      have c5b1 : (((rd_T35 l0 x6_1).f2) != a1) = true := bne_iff_ne.mpr c5
      by_cases c7 : (x5_1.length : Int) > 0
      ·rw [if_pos c7] at H
       have c7b0 : decide (0 < (x5_1.length : Int)) = true := decide_eq_true c7
       have c7b1 : decide (0 < x5_1.length) = true := decide_eq_true (by omega)
       clear c7
       obtain ⟨ji8, hji8⟩ : ∃ j_ : Int, (wrap64 ((x5_1.length : Int) - 1)) = j_ := ⟨_, rfl⟩
       replace H : (if 0 ≤ (ji8) then (if (ji8) < (x5_1.length : Int) then (if ((rd_T35 x5_1 (ji8)).f2) = ((rd_T35 l0 x6_1).f2) then (if (wrap64 (((rd_T35 x5_1 (ji8)).f1) + 1)) = ((rd_T35 l0 x6_1).f0) then (endonymref4_Ranges.l0 k1 l0 a1 (x5_1.set ((ji8) : Int).toNat (⟨(rd_T35 x5_1 (ji8)).f0, (rd_T35 l0 x6_1).f1, (rd_T35 x5_1 (ji8)).f2⟩ : S35)) (wrap64 (x6_1 + 1))) else (if x5_1.length < 5864062014805 then (endonymref4_Ranges.l0 k1 l0 a1 (x5_1 ++ [(⟨(rd_T35 l0 x6_1).f0, (rd_T35 l0 x6_1).f1, (rd_T35 l0 x6_1).f2⟩ : S35)]) (wrap64 (x6_1 + 1))) else (none))) else (if x5_1.length < 5864062014805 then (endonymref4_Ranges.l0 k1 l0 a1 (x5_1 ++ [(⟨(rd_T35 l0 x6_1).f0, (rd_T35 l0 x6_1).f1, (rd_T35 l0 x6_1).f2⟩ : S35)]) (wrap64 (x6_1 + 1))) else (none))) else (none)) else (none)) = some r := by first | (rw [hji8] at H; exact H) | (simp only [hji8] at H ⊢; exact H)
       have hji8w : (IntKind.i64.wrap ((x5_1.length : Int) - 1)) = ji8 := (i64_w _).trans hji8
       by_cases c9 : 0 ≤ (ji8)
       ·rw [if_pos c9] at H
        have c9b0 : decide (0 ≤ (ji8)) = true := decide_eq_true c9
        clear c9
        by_cases c10 : (ji8) < (x5_1.length : Int)
        ·rw [if_pos c10] at H
         have c10b0 : decide ((ji8) < (x5_1.length : Int)) = true := decide_eq_true c10
         clear c10
         by_cases c11 : ((rd_T35 x5_1 (ji8)).f2) = ((rd_T35 l0 x6_1).f2)
         ·rw [if_pos c11] at H
          have c11b0 : (((rd_T35 x5_1 (ji8)).f2) == ((rd_T35 l0 x6_1).f2)) = true := beq_iff_eq.mpr c11
          have c11b1 : (((rd_T35 x5_1 (ji8)).f2) != ((rd_T35 l0 x6_1).f2)) = false := bne_eq_false_iff_eq.mpr c11
          clear c11
          by_cases c12 : (wrap64 (((rd_T35 x5_1 (ji8)).f1) + 1)) = ((rd_T35 l0 x6_1).f0)
          ·rw [if_pos c12] at H
           have c12b0 : ((wrap64 (((rd_T35 x5_1 (ji8)).f1) + 1)) == ((rd_T35 l0 x6_1).f0)) = true := beq_iff_eq.mpr c12
           have c12b1 : ((wrap64 (((rd_T35 x5_1 (ji8)).f1) + 1)) != ((rd_T35 l0 x6_1).f0)) = false := bne_eq_false_iff_eq.mpr c12
           clear c12
           obtain ⟨y222, hy222⟩ : ∃ y_ : List (S35), y_ = (x5_1.set ((ji8) : Int).toNat (⟨(rd_T35 x5_1 (ji8)).f0, (rd_T35 l0 x6_1).f1, (rd_T35 x5_1 (ji8)).f2⟩ : S35)) := ⟨_, rfl⟩
           replace H : (endonymref4_Ranges.l0 k1 l0 a1 y222 (wrap64 (x6_1 + 1))) = some r := by first | (rw [hy222]; with_reducible exact H) | (have H2_ := (Option.bind_some _ _).symm.trans H; rw [hy222]; with_reducible exact H2_) | (have H2_ := (Option.bind_some _ _).symm.trans H; with_reducible exact H2_) | with_reducible exact H | (rw [hy222]; exact H) | exact H
           have Ny222 := Aside0.mk hy222
           clear hy222
           have H' := Aside0.mk H
           clear H
           obtain ⟨Ao14, co14, eo14⟩ := Kd.R_slice HO_5.out
           subst eo14
           have p216 : 0 ≤ (x6_1 : Int) := of_decide_eq_true (by first | (with_reducible assumption) | assumption)
           have q216 : x6_1 < (l0.length : Int) := of_decide_eq_true (by first | (with_reducible assumption) | assumption)
           obtain ⟨ad216, e216, hx216_0, hx216_1, hx216_2⟩ := at_T35 HR0.out x6_1 p216 q216
           cases e216
           replace hx216_0 := (HB.out.cell (World.block_lt_of_cell? w _ hx216_0)).trans hx216_0
           replace hx216_1 := (HB.out.cell (World.block_lt_of_cell? w _ hx216_1)).trans hx216_1
           replace hx216_2 := (HB.out.cell (World.block_lt_of_cell? w _ hx216_2)).trans hx216_2
           replace p216 := eq_true p216
           replace q216 := eq_true q216
           have p217 : 0 ≤ ((ji8) : Int) := of_decide_eq_true (by first | (with_reducible assumption) | assumption)
           have q217 : (ji8) < (x5_1.length : Int) := of_decide_eq_true (by first | (with_reducible assumption) | assumption)
           obtain ⟨ad217, e217, hx217_0, hx217_1, hx217_2⟩ := at_T35 (Kd.R_reads' HO_5.out).2.2 (ji8) p217 q217
           cases e217
           replace p217 := eq_true p217
           replace q217 := eq_true q217
           have p218 : 0 ≤ (x6_1 : Int) := of_decide_eq_true (by first | (with_reducible assumption) | assumption)
           have q218 : x6_1 < (l0.length : Int) := of_decide_eq_true (by first | (with_reducible assumption) | assumption)
           obtain ⟨ad218, e218, hx218_0, hx218_1, hx218_2⟩ := at_T35 HR0.out x6_1 p218 q218
           obtain rfl : ad216 = ad218 := (by injection e218)
           replace hx218_0 := (HB.out.cell (World.block_lt_of_cell? w _ hx218_0)).trans hx218_0
           replace hx218_1 := (HB.out.cell (World.block_lt_of_cell? w _ hx218_1)).trans hx218_1
           replace hx218_2 := (HB.out.cell (World.block_lt_of_cell? w _ hx218_2)).trans hx218_2
           replace p218 := eq_true p218
           replace q218 := eq_true q218
           have p219 : 0 ≤ ((ji8) : Int) := of_decide_eq_true (by first | (with_reducible assumption) | assumption)
           have q219 : (ji8) < (x5_1.length : Int) := of_decide_eq_true (by first | (with_reducible assumption) | assumption)
           obtain ⟨ad219, e219, hx219_0, hx219_1, hx219_2⟩ := at_T35 (Kd.R_reads' HO_5.out).2.2 (ji8) p219 q219
           obtain rfl : ad217 = ad219 := (by injection e219)
           replace p219 := eq_true p219
           replace q219 := eq_true q219
           have p220 : 0 ≤ (x6_1 : Int) := of_decide_eq_true (by first | (with_reducible assumption) | assumption)
           have q220 : x6_1 < (l0.length : Int) := of_decide_eq_true (by first | (with_reducible assumption) | assumption)
           obtain ⟨ad220, e220, hx220_0, hx220_1, hx220_2⟩ := at_T35 HR0.out x6_1 p220 q220
           obtain rfl : ad216 = ad220 := (by injection e220)
           replace hx220_0 := (HB.out.cell (World.block_lt_of_cell? w _ hx220_0)).trans hx220_0
           replace hx220_1 := (HB.out.cell (World.block_lt_of_cell? w _ hx220_1)).trans hx220_1
           replace hx220_2 := (HB.out.cell (World.block_lt_of_cell? w _ hx220_2)).trans hx220_2
           replace p220 := eq_true p220
           replace q220 := eq_true q220
           have p221 : 0 ≤ (x6_1 : Int) := of_decide_eq_true (by first | (with_reducible assumption) | assumption)
           have q221 : x6_1 < (l0.length : Int) := of_decide_eq_true (by first | (with_reducible assumption) | assumption)
           obtain ⟨ad221, e221, hx221_0, hx221_1, hx221_2⟩ := at_T35 HR0.out x6_1 p221 q221
           obtain rfl : ad216 = ad221 := (by injection e221)
           replace hx221_0 := (HB.out.cell (World.block_lt_of_cell? w _ hx221_0)).trans hx221_0
           replace hx221_1 := (HB.out.cell (World.block_lt_of_cell? w _ hx221_1)).trans hx221_1
           replace hx221_2 := (HB.out.cell (World.block_lt_of_cell? w _ hx221_2)).trans hx221_2
           replace p221 := eq_true p221
           replace q221 := eq_true q221
           have p13 : 0 ≤ ((ji8) : Int) := of_decide_eq_true (by first | (with_reducible assumption) | assumption)
           have q13 : ((ji8) : Int) < ((x5_1.length : Int) : Int) := of_decide_eq_true (by first | (with_reducible assumption) | assumption)
           obtain ⟨go13, co13, eo13, gb13, gl13, cl13, HG13⟩ := Kd.R_form HO_5.out (by omega)
           (first | cases eo13 | (injection eo13 with ea_ en_ ec_; (first | subst ea_ | (injection ea_ with ea_; subst ea_)); subst ec_; clear en_))
           have GB13 := Aside0.mk gb13
           have GG13 := Aside0.mk HG13
           clear gb13 gl13 HG13
           (first | simp only [add_plain] at hx217_0 | skip)
           (first | simp only [add_plain] at hx217_1 | skip)
           (first | simp only [add_plain] at hx217_2 | skip)
           (first | simp only [add_plain] at hx219_0 | skip)
           (first | simp only [add_plain] at hx219_1 | skip)
           (first | simp only [add_plain] at hx219_2 | skip)
           obtain ⟨ce13, hcl13, hM13, hcc13, hfr13⟩ := Kd.R_elem HO_5.out z35 ((ji8) : Int) p13 q13
           obtain rfl := k35_openM hM13
           have hx13_0 : wr.cell? ⟨go13, ((ji8) : Int).toNat * 3, none⟩ = some (.int .i64 ((rd_T35 x5_1 (ji8)).f0)) := hcc13 0 _ rfl
           have hx13_1 : wr.cell? ⟨go13, ((ji8) : Int).toNat * 3 + 1, none⟩ = some (.int .i64 ((rd_T35 x5_1 (ji8)).f1)) := hcc13 1 _ rfl
           have hx13_2 : wr.cell? ⟨go13, ((ji8) : Int).toNat * 3 + 2, none⟩ = some (.int .i64 ((rd_T35 x5_1 (ji8)).f2)) := hcc13 2 _ rfl
           have hf13_0 : wr.frozen? ⟨go13, ((ji8) : Int).toNat * 3, none⟩ = false := hfr13 0
           have hf13_1 : wr.frozen? ⟨go13, ((ji8) : Int).toNat * 3 + 1, none⟩ = false := hfr13 1
           have hf13_2 : wr.frozen? ⟨go13, ((ji8) : Int).toNat * 3 + 2, none⟩ = false := hfr13 2
           clear hcl13 hcc13 hfr13 hM13
           replace p13 := eq_true p13
           replace q13 := eq_true q13
           have HX15 := Aside0.mk (show Kd.R k35 35 wr w.heap.size (fun _ => True) (.slice (some ⟨go13, 0, none⟩) x5_1.length co14) x5_1 from (by (with_reducible repeat (first | apply Kd.R_alloc | apply Kd.R_drewN | apply Kd.R_drew)); exact HO_5.out))
           obtain ⟨ce15, hcl15, hM15, hcc15, hfr15⟩ := Kd.R_elem HX15.out z35 ((ji8) : Int) (of_decide_eq_true (by first | (with_reducible assumption) | assumption)) (by have h_ : ((ji8) : Int) < ((x5_1.length : Int) : Int) := of_decide_eq_true (by first | (with_reducible assumption) | assumption); first | exact h_ | (have e_ := (Kd.R_reads' HO_5.out).1; omega) | simpa using h_)
           obtain rfl := k35_openM hM15
           have HP15 := Kd.R_seg HX15.out ((ji8) : Int) (of_decide_eq_true (by first | (with_reducible assumption) | assumption)) (by have h_ : ((ji8) : Int) < ((x5_1.length : Int) : Int) := of_decide_eq_true (by first | (with_reducible assumption) | assumption); first | exact h_ | (have e_ := (Kd.R_reads' HO_5.out).1; omega) | simpa using h_) (seg := [.int .i64 ((rd_T35 l0 x6_1).f1)]) (j := 1) hcl15 hcc15 (show 2 ≤ 3 from by decide) (x' := (⟨(rd_T35 x5_1 (ji8)).f0, (rd_T35 l0 x6_1).f1, (rd_T35 x5_1 (ji8)).f2⟩ : S35)) (k35_mkM _ _ _ (⟨(rd_T35 x5_1 (ji8)).f0, (rd_T35 l0 x6_1).f1, (rd_T35 x5_1 (ji8)).f2⟩ : S35) ) (fun _ hk => hk)
           have hx15_1 := hcc15 1 _ rfl
           (try simp only [show (k35).sz = 3 from rfl, Nat.mul_one, Nat.add_zero] at hx15_1)
           have hf15_1 := hfr15 1
           (try simp only [show (k35).sz = 3 from rfl, Nat.mul_one, Nat.add_zero] at hf15_1)
           clear hcl15 hcc15 hfr15 hM15
           go_wp2_with (first | ((with_reducible refine gate_store (t := 3) (p := 72) rfl ?_); (try (rw [drewN_self wr]; generalize hq_ : World.drewN wr _ = wr; have n0_ := Aside0.mk (Kd.R_at hq_ HO_5.out); have n1_ := Aside0.mk (below_at hq_ HB.out); clear hq_ HO_5 HB; have HO_5 := n0_; have HB := n1_; clear n0_ n1_; (try (have HX15 := Aside0.mk (show Kd.R k35 35 wr w.heap.size (fun _ => True) (.slice (some ⟨go13, 0, none⟩) x5_1.length co14) x5_1 from (by (with_reducible repeat (first | apply Kd.R_alloc | apply Kd.R_drewN | apply Kd.R_drew)); exact HO_5.out)))); (try (obtain ⟨ce15, hcl15, hM15, hcc15, hfr15⟩ := Kd.R_elem HX15.out z35 ((ji8) : Int) (of_decide_eq_true (by first | (with_reducible assumption) | assumption)) (by have h_ : ((ji8) : Int) < ((x5_1.length : Int) : Int) := of_decide_eq_true (by first | (with_reducible assumption) | assumption); first | exact h_ | (have e_ := (Kd.R_reads' HO_5.out).1; omega) | simpa using h_))); (try (obtain rfl := k35_openM hM15)); (try (have HP15 := Kd.R_seg HX15.out ((ji8) : Int) (of_decide_eq_true (by first | (with_reducible assumption) | assumption)) (by have h_ : ((ji8) : Int) < ((x5_1.length : Int) : Int) := of_decide_eq_true (by first | (with_reducible assumption) | assumption); first | exact h_ | (have e_ := (Kd.R_reads' HO_5.out).1; omega) | simpa using h_) (seg := [.int .i64 ((rd_T35 l0 x6_1).f1)]) (j := 1) hcl15 hcc15 (show 2 ≤ 3 from by decide) (x' := (⟨(rd_T35 x5_1 (ji8)).f0, (rd_T35 l0 x6_1).f1, (rd_T35 x5_1 (ji8)).f2⟩ : S35)) (k35_mkM _ _ _ (⟨(rd_T35 x5_1 (ji8)).f0, (rd_T35 l0 x6_1).f1, (rd_T35 x5_1 (ji8)).f2⟩ : S35) ) (fun _ hk => hk))); (try (have hx15_1 := hcc15 1 _ rfl)); (try (try simp only [show (k35).sz = 3 from rfl, Nat.mul_one, Nat.add_zero] at hx15_1)); (try (have hf15_1 := hfr15 1)); (try (try simp only [show (k35).sz = 3 from rfl, Nat.mul_one, Nat.add_zero] at hf15_1)); (try (clear hcl15 hcc15 hfr15 hM15)))); refine store_event (t := 3) (p := 72) (v := ?vo_w16) (w1 := (wr.setCell ⟨go13, ((ji8) : Int).toNat * 3 + 1, none⟩ (.int .i64 ((rd_T35 l0 x6_1).f1)))) ?hg ?ho ?hn ?hr ?_; (case ho => rfl); (case hg => rfl); (case hn => rfl); (case hr => first | (go_simp; done) | (go_simp; rfl)); intro w16 hw; have hg : wr.grownBy w16 (some go13) := (by rw [hw]; exact HP15.2); have hp_ : Kd.R k35 35 w16 w.heap.size (fun _ => True) (.slice (some ⟨go13, 0, none⟩) x5_1.length co14) y222 := (by rw [hw, Ny222.out]; exact HP15.1); clear HP15; have n0_ := Aside0.mk (hp_); have n1_ := Aside0.mk ((by rw [hw]; exact below_set (HB.out) GB13.out : Below w.heap.size w w16)); clear HO_5; clear HB; have HO_5 := n0_; have HB := n1_; clear n0_ n1_; clear hg hw hp_))
           repeat (go_quiet (first | ((with_reducible refine gate_store (t := 3) (p := 72) rfl ?_); (try (rw [drewN_self wr]; generalize hq_ : World.drewN wr _ = wr; have n0_ := Aside0.mk (Kd.R_at hq_ HO_5.out); have n1_ := Aside0.mk (below_at hq_ HB.out); clear hq_ HO_5 HB; have HO_5 := n0_; have HB := n1_; clear n0_ n1_; (try (have HX15 := Aside0.mk (show Kd.R k35 35 wr w.heap.size (fun _ => True) (.slice (some ⟨go13, 0, none⟩) x5_1.length co14) x5_1 from (by (with_reducible repeat (first | apply Kd.R_alloc | apply Kd.R_drewN | apply Kd.R_drew)); exact HO_5.out)))); (try (obtain ⟨ce15, hcl15, hM15, hcc15, hfr15⟩ := Kd.R_elem HX15.out z35 ((ji8) : Int) (of_decide_eq_true (by first | (with_reducible assumption) | assumption)) (by have h_ : ((ji8) : Int) < ((x5_1.length : Int) : Int) := of_decide_eq_true (by first | (with_reducible assumption) | assumption); first | exact h_ | (have e_ := (Kd.R_reads' HO_5.out).1; omega) | simpa using h_))); (try (obtain rfl := k35_openM hM15)); (try (have HP15 := Kd.R_seg HX15.out ((ji8) : Int) (of_decide_eq_true (by first | (with_reducible assumption) | assumption)) (by have h_ : ((ji8) : Int) < ((x5_1.length : Int) : Int) := of_decide_eq_true (by first | (with_reducible assumption) | assumption); first | exact h_ | (have e_ := (Kd.R_reads' HO_5.out).1; omega) | simpa using h_) (seg := [.int .i64 ((rd_T35 l0 x6_1).f1)]) (j := 1) hcl15 hcc15 (show 2 ≤ 3 from by decide) (x' := (⟨(rd_T35 x5_1 (ji8)).f0, (rd_T35 l0 x6_1).f1, (rd_T35 x5_1 (ji8)).f2⟩ : S35)) (k35_mkM _ _ _ (⟨(rd_T35 x5_1 (ji8)).f0, (rd_T35 l0 x6_1).f1, (rd_T35 x5_1 (ji8)).f2⟩ : S35) ) (fun _ hk => hk))); (try (have hx15_1 := hcc15 1 _ rfl)); (try (try simp only [show (k35).sz = 3 from rfl, Nat.mul_one, Nat.add_zero] at hx15_1)); (try (have hf15_1 := hfr15 1)); (try (try simp only [show (k35).sz = 3 from rfl, Nat.mul_one, Nat.add_zero] at hf15_1)); (try (clear hcl15 hcc15 hfr15 hM15)))); refine store_event (t := 3) (p := 72) (v := ?vo_w16) (w1 := (wr.setCell ⟨go13, ((ji8) : Int).toNat * 3 + 1, none⟩ (.int .i64 ((rd_T35 l0 x6_1).f1)))) ?hg ?ho ?hn ?hr ?_; (case ho => rfl); (case hg => rfl); (case hn => rfl); (case hr => first | (go_simp; done) | (go_simp; rfl)); intro w16 hw; have hg : wr.grownBy w16 (some go13) := (by rw [hw]; exact HP15.2); have hp_ : Kd.R k35 35 w16 w.heap.size (fun _ => True) (.slice (some ⟨go13, 0, none⟩) x5_1.length co14) y222 := (by rw [hw, Ny222.out]; exact HP15.1); clear HP15; have n0_ := Aside0.mk (hp_); have n1_ := Aside0.mk ((by rw [hw]; exact below_set (HB.out) GB13.out : Below w.heap.size w w16)); clear HO_5; clear HB; have HO_5 := n0_; have HB := n1_; clear n0_ n1_; clear hg hw hp_)); try go_wp2_with (first | ((with_reducible refine gate_store (t := 3) (p := 72) rfl ?_); (try (rw [drewN_self wr]; generalize hq_ : World.drewN wr _ = wr; have n0_ := Aside0.mk (Kd.R_at hq_ HO_5.out); have n1_ := Aside0.mk (below_at hq_ HB.out); clear hq_ HO_5 HB; have HO_5 := n0_; have HB := n1_; clear n0_ n1_; (try (have HX15 := Aside0.mk (show Kd.R k35 35 wr w.heap.size (fun _ => True) (.slice (some ⟨go13, 0, none⟩) x5_1.length co14) x5_1 from (by (with_reducible repeat (first | apply Kd.R_alloc | apply Kd.R_drewN | apply Kd.R_drew)); exact HO_5.out)))); (try (obtain ⟨ce15, hcl15, hM15, hcc15, hfr15⟩ := Kd.R_elem HX15.out z35 ((ji8) : Int) (of_decide_eq_true (by first | (with_reducible assumption) | assumption)) (by have h_ : ((ji8) : Int) < ((x5_1.length : Int) : Int) := of_decide_eq_true (by first | (with_reducible assumption) | assumption); first | exact h_ | (have e_ := (Kd.R_reads' HO_5.out).1; omega) | simpa using h_))); (try (obtain rfl := k35_openM hM15)); (try (have HP15 := Kd.R_seg HX15.out ((ji8) : Int) (of_decide_eq_true (by first | (with_reducible assumption) | assumption)) (by have h_ : ((ji8) : Int) < ((x5_1.length : Int) : Int) := of_decide_eq_true (by first | (with_reducible assumption) | assumption); first | exact h_ | (have e_ := (Kd.R_reads' HO_5.out).1; omega) | simpa using h_) (seg := [.int .i64 ((rd_T35 l0 x6_1).f1)]) (j := 1) hcl15 hcc15 (show 2 ≤ 3 from by decide) (x' := (⟨(rd_T35 x5_1 (ji8)).f0, (rd_T35 l0 x6_1).f1, (rd_T35 x5_1 (ji8)).f2⟩ : S35)) (k35_mkM _ _ _ (⟨(rd_T35 x5_1 (ji8)).f0, (rd_T35 l0 x6_1).f1, (rd_T35 x5_1 (ji8)).f2⟩ : S35) ) (fun _ hk => hk))); (try (have hx15_1 := hcc15 1 _ rfl)); (try (try simp only [show (k35).sz = 3 from rfl, Nat.mul_one, Nat.add_zero] at hx15_1)); (try (have hf15_1 := hfr15 1)); (try (try simp only [show (k35).sz = 3 from rfl, Nat.mul_one, Nat.add_zero] at hf15_1)); (try (clear hcl15 hcc15 hfr15 hM15)))); refine store_event (t := 3) (p := 72) (v := ?vo_w16) (w1 := (wr.setCell ⟨go13, ((ji8) : Int).toNat * 3 + 1, none⟩ (.int .i64 ((rd_T35 l0 x6_1).f1)))) ?hg ?ho ?hn ?hr ?_; (case ho => rfl); (case hg => rfl); (case hn => rfl); (case hr => first | (go_simp; done) | (go_simp; rfl)); intro w16 hw; have hg : wr.grownBy w16 (some go13) := (by rw [hw]; exact HP15.2); have hp_ : Kd.R k35 35 w16 w.heap.size (fun _ => True) (.slice (some ⟨go13, 0, none⟩) x5_1.length co14) y222 := (by rw [hw, Ny222.out]; exact HP15.1); clear HP15; have n0_ := Aside0.mk (hp_); have n1_ := Aside0.mk ((by rw [hw]; exact below_set (HB.out) GB13.out : Below w.heap.size w w16)); clear HO_5; clear HB; have HO_5 := n0_; have HB := n1_; clear n0_ n1_; clear hg hw hp_)))
           go_roundg k1
           case measure => have := HK1.out; omega
           case rel => exact ⟨(y222), (wrap64 (x6_1 + 1)), (by first | rfl | (simp; done) | (simp [*]; done)), H', ⟨by have := HK1.out; omega⟩, ⟨by (with_reducible repeat (first | apply Kd.R_alloc | apply Kd.R_drewN | apply Kd.R_drew)); exact HO_5.out⟩, ⟨by repeat (first | (with_reducible first | exact HB.out | apply below_alloc | apply pw_below_drewN | apply below_drew1) | exact HB.out)⟩⟩
          ·rw [if_neg c12] at H
           have c12b0 : ((wrap64 (((rd_T35 x5_1 (ji8)).f1) + 1)) == ((rd_T35 l0 x6_1).f0)) = false := beq_eq_false_iff_ne.mpr c12
           have c12b1 : ((wrap64 (((rd_T35 x5_1 (ji8)).f1) + 1)) != ((rd_T35 l0 x6_1).f0)) = true := bne_iff_ne.mpr c12
           by_cases c17 : x5_1.length < 5864062014805
           ·rw [if_pos c17] at H
            have LMc17 := Aside0.mk c17
            clear c17
            obtain ⟨y224, hy224⟩ : ∃ y_ : List (S35), y_ = (x5_1 ++ [(⟨(rd_T35 l0 x6_1).f0, (rd_T35 l0 x6_1).f1, (rd_T35 l0 x6_1).f2⟩ : S35)]) := ⟨_, rfl⟩
            replace H : (endonymref4_Ranges.l0 k1 l0 a1 y224 (wrap64 (x6_1 + 1))) = some r := by first | (rw [hy224]; with_reducible exact H) | (have H2_ := (Option.bind_some _ _).symm.trans H; rw [hy224]; with_reducible exact H2_) | (have H2_ := (Option.bind_some _ _).symm.trans H; with_reducible exact H2_) | with_reducible exact H | (rw [hy224]; exact H) | exact H
            have Ny224 := Aside0.mk hy224
            clear hy224
            have H' := Aside0.mk H
            clear H
            obtain ⟨Ao18, co18, eo18⟩ := Kd.R_slice HO_5.out
            subst eo18
            have p216 : 0 ≤ (x6_1 : Int) := of_decide_eq_true (by first | (with_reducible assumption) | assumption)
            have q216 : x6_1 < (l0.length : Int) := of_decide_eq_true (by first | (with_reducible assumption) | assumption)
            obtain ⟨ad216, e216, hx216_0, hx216_1, hx216_2⟩ := at_T35 HR0.out x6_1 p216 q216
            cases e216
            replace hx216_0 := (HB.out.cell (World.block_lt_of_cell? w _ hx216_0)).trans hx216_0
            replace hx216_1 := (HB.out.cell (World.block_lt_of_cell? w _ hx216_1)).trans hx216_1
            replace hx216_2 := (HB.out.cell (World.block_lt_of_cell? w _ hx216_2)).trans hx216_2
            replace p216 := eq_true p216
            replace q216 := eq_true q216
            have p217 : 0 ≤ ((ji8) : Int) := of_decide_eq_true (by first | (with_reducible assumption) | assumption)
            have q217 : (ji8) < (x5_1.length : Int) := of_decide_eq_true (by first | (with_reducible assumption) | assumption)
            obtain ⟨ad217, e217, hx217_0, hx217_1, hx217_2⟩ := at_T35 (Kd.R_reads' HO_5.out).2.2 (ji8) p217 q217
            cases e217
            replace p217 := eq_true p217
            replace q217 := eq_true q217
            have p218 : 0 ≤ (x6_1 : Int) := of_decide_eq_true (by first | (with_reducible assumption) | assumption)
            have q218 : x6_1 < (l0.length : Int) := of_decide_eq_true (by first | (with_reducible assumption) | assumption)
            obtain ⟨ad218, e218, hx218_0, hx218_1, hx218_2⟩ := at_T35 HR0.out x6_1 p218 q218
            obtain rfl : ad216 = ad218 := (by injection e218)
            replace hx218_0 := (HB.out.cell (World.block_lt_of_cell? w _ hx218_0)).trans hx218_0
            replace hx218_1 := (HB.out.cell (World.block_lt_of_cell? w _ hx218_1)).trans hx218_1
            replace hx218_2 := (HB.out.cell (World.block_lt_of_cell? w _ hx218_2)).trans hx218_2
            replace p218 := eq_true p218
            replace q218 := eq_true q218
            have p219 : 0 ≤ ((ji8) : Int) := of_decide_eq_true (by first | (with_reducible assumption) | assumption)
            have q219 : (ji8) < (x5_1.length : Int) := of_decide_eq_true (by first | (with_reducible assumption) | assumption)
            obtain ⟨ad219, e219, hx219_0, hx219_1, hx219_2⟩ := at_T35 (Kd.R_reads' HO_5.out).2.2 (ji8) p219 q219
            obtain rfl : ad217 = ad219 := (by injection e219)
            replace p219 := eq_true p219
            replace q219 := eq_true q219
            have p220 : 0 ≤ (x6_1 : Int) := of_decide_eq_true (by first | (with_reducible assumption) | assumption)
            have q220 : x6_1 < (l0.length : Int) := of_decide_eq_true (by first | (with_reducible assumption) | assumption)
            obtain ⟨ad220, e220, hx220_0, hx220_1, hx220_2⟩ := at_T35 HR0.out x6_1 p220 q220
            obtain rfl : ad216 = ad220 := (by injection e220)
            replace hx220_0 := (HB.out.cell (World.block_lt_of_cell? w _ hx220_0)).trans hx220_0
            replace hx220_1 := (HB.out.cell (World.block_lt_of_cell? w _ hx220_1)).trans hx220_1
            replace hx220_2 := (HB.out.cell (World.block_lt_of_cell? w _ hx220_2)).trans hx220_2
            replace p220 := eq_true p220
            replace q220 := eq_true q220
            have p223 : 0 ≤ (x6_1 : Int) := of_decide_eq_true (by first | (with_reducible assumption) | assumption)
            have q223 : x6_1 < (l0.length : Int) := of_decide_eq_true (by first | (with_reducible assumption) | assumption)
            obtain ⟨ad223, e223, hx223_0, hx223_1, hx223_2⟩ := at_T35 HR0.out x6_1 p223 q223
            obtain rfl : ad216 = ad223 := (by injection e223)
            replace hx223_0 := (HB.out.cell (World.block_lt_of_cell? w _ hx223_0)).trans hx223_0
            replace hx223_1 := (HB.out.cell (World.block_lt_of_cell? w _ hx223_1)).trans hx223_1
            replace hx223_2 := (HB.out.cell (World.block_lt_of_cell? w _ hx223_2)).trans hx223_2
            replace p223 := eq_true p223
            replace q223 := eq_true q223
            go_wp2_with (first | ((with_reducible refine gate_builtin (b := .append) (xs := #[.tmp 16, .tmp 21]) rfl ?_); at_builtin; refine Kd.R_append k35 (w0 := w) w.heap.size rfl (.tmp 16) (.tmp 21) 22 35 (.agg #[(.int .i64 0), (.int .i64 0), (.int .i64 0)]) 24 rfl Try.underlying22 info35 rfl (by decide) (by omega) (.slice (some ad217) x5_1.length co18) x5_1 (⟨(rd_T35 l0 x6_1).f0, (rd_T35 l0 x6_1).f1, (rd_T35 l0 x6_1).f2⟩ : S35) [.int .i64 ((rd_T35 l0 x6_1).f0), .int .i64 ((rd_T35 l0 x6_1).f1), .int .i64 ((rd_T35 l0 x6_1).f2)] (fun _ => True) (fun _ => False) rfl rfl ?aP (fun _ hk => hk.elim) ?aF ?aO ?aB ?aS ?aL ?_; (case aP => exact k35_mkM _ _ _ (⟨(rd_T35 l0 x6_1).f0, (rd_T35 l0 x6_1).f1, (rd_T35 l0 x6_1).f2⟩ : S35)); (case aB => exact (by repeat (first | (with_reducible first | exact HB.out | apply below_alloc | apply pw_below_drewN | apply below_drew1) | exact HB.out))); (case aF => exact (fun _ _ => trivial)); (case aO => exact (by (with_reducible repeat (first | apply Kd.R_alloc | apply Kd.R_drewN | apply Kd.R_drew)); exact HO_5.out)); (case aS => exact (below_size (by repeat (first | (with_reducible first | exact HB.out | apply below_alloc | apply pw_below_drewN | apply below_drew1) | exact HB.out)))); (case aL => have := LMc17.out; omega); intro v225 w19 ho hb hg hat; rw [← Ny224.out] at ho; have n0_ := Aside0.mk (hb); have n1_ := Aside0.mk (ho); clear HB; clear HO_5; have HB := n0_; have HO226 := n1_; clear n0_ n1_; clear ho hb hg hat))
            repeat (go_quiet (first | ((with_reducible refine gate_builtin (b := .append) (xs := #[.tmp 16, .tmp 21]) rfl ?_); at_builtin; refine Kd.R_append k35 (w0 := w) w.heap.size rfl (.tmp 16) (.tmp 21) 22 35 (.agg #[(.int .i64 0), (.int .i64 0), (.int .i64 0)]) 24 rfl Try.underlying22 info35 rfl (by decide) (by omega) (.slice (some ad217) x5_1.length co18) x5_1 (⟨(rd_T35 l0 x6_1).f0, (rd_T35 l0 x6_1).f1, (rd_T35 l0 x6_1).f2⟩ : S35) [.int .i64 ((rd_T35 l0 x6_1).f0), .int .i64 ((rd_T35 l0 x6_1).f1), .int .i64 ((rd_T35 l0 x6_1).f2)] (fun _ => True) (fun _ => False) rfl rfl ?aP (fun _ hk => hk.elim) ?aF ?aO ?aB ?aS ?aL ?_; (case aP => exact k35_mkM _ _ _ (⟨(rd_T35 l0 x6_1).f0, (rd_T35 l0 x6_1).f1, (rd_T35 l0 x6_1).f2⟩ : S35)); (case aB => exact (by repeat (first | (with_reducible first | exact HB.out | apply below_alloc | apply pw_below_drewN | apply below_drew1) | exact HB.out))); (case aF => exact (fun _ _ => trivial)); (case aO => exact (by (with_reducible repeat (first | apply Kd.R_alloc | apply Kd.R_drewN | apply Kd.R_drew)); exact HO_5.out)); (case aS => exact (below_size (by repeat (first | (with_reducible first | exact HB.out | apply below_alloc | apply pw_below_drewN | apply below_drew1) | exact HB.out)))); (case aL => have := LMc17.out; omega); intro v225 w19 ho hb hg hat; rw [← Ny224.out] at ho; have n0_ := Aside0.mk (hb); have n1_ := Aside0.mk (ho); clear HB; clear HO_5; have HB := n0_; have HO226 := n1_; clear n0_ n1_; clear ho hb hg hat)); try go_wp2_with (first | ((with_reducible refine gate_builtin (b := .append) (xs := #[.tmp 16, .tmp 21]) rfl ?_); at_builtin; refine Kd.R_append k35 (w0 := w) w.heap.size rfl (.tmp 16) (.tmp 21) 22 35 (.agg #[(.int .i64 0), (.int .i64 0), (.int .i64 0)]) 24 rfl Try.underlying22 info35 rfl (by decide) (by omega) (.slice (some ad217) x5_1.length co18) x5_1 (⟨(rd_T35 l0 x6_1).f0, (rd_T35 l0 x6_1).f1, (rd_T35 l0 x6_1).f2⟩ : S35) [.int .i64 ((rd_T35 l0 x6_1).f0), .int .i64 ((rd_T35 l0 x6_1).f1), .int .i64 ((rd_T35 l0 x6_1).f2)] (fun _ => True) (fun _ => False) rfl rfl ?aP (fun _ hk => hk.elim) ?aF ?aO ?aB ?aS ?aL ?_; (case aP => exact k35_mkM _ _ _ (⟨(rd_T35 l0 x6_1).f0, (rd_T35 l0 x6_1).f1, (rd_T35 l0 x6_1).f2⟩ : S35)); (case aB => exact (by repeat (first | (with_reducible first | exact HB.out | apply below_alloc | apply pw_below_drewN | apply below_drew1) | exact HB.out))); (case aF => exact (fun _ _ => trivial)); (case aO => exact (by (with_reducible repeat (first | apply Kd.R_alloc | apply Kd.R_drewN | apply Kd.R_drew)); exact HO_5.out)); (case aS => exact (below_size (by repeat (first | (with_reducible first | exact HB.out | apply below_alloc | apply pw_below_drewN | apply below_drew1) | exact HB.out)))); (case aL => have := LMc17.out; omega); intro v225 w19 ho hb hg hat; rw [← Ny224.out] at ho; have n0_ := Aside0.mk (hb); have n1_ := Aside0.mk (ho); clear HB; clear HO_5; have HB := n0_; have HO226 := n1_; clear n0_ n1_; clear ho hb hg hat)))
            go_roundg k1
            case measure => have := HK1.out; omega
            case rel => exact ⟨(y224), (wrap64 (x6_1 + 1)), (by first | rfl | (simp; done) | (simp [*]; done)), H', ⟨by have := HK1.out; omega⟩, ⟨by (with_reducible repeat (first | apply Kd.R_alloc | apply Kd.R_drewN | apply Kd.R_drew)); exact HO226.out⟩, ⟨by repeat (first | (with_reducible first | exact HB.out | apply below_alloc | apply pw_below_drewN | apply below_drew1) | exact HB.out)⟩⟩
           ·rw [if_neg c17] at H
            exact absurd H (by simp)
         ·rw [if_neg c11] at H
          have c11b0 : (((rd_T35 x5_1 (ji8)).f2) == ((rd_T35 l0 x6_1).f2)) = false := beq_eq_false_iff_ne.mpr c11
          have c11b1 : (((rd_T35 x5_1 (ji8)).f2) != ((rd_T35 l0 x6_1).f2)) = true := bne_iff_ne.mpr c11
          by_cases c20 : x5_1.length < 5864062014805
          ·rw [if_pos c20] at H
           have LMc20 := Aside0.mk c20
           clear c20
           obtain ⟨y228, hy228⟩ : ∃ y_ : List (S35), y_ = (x5_1 ++ [(⟨(rd_T35 l0 x6_1).f0, (rd_T35 l0 x6_1).f1, (rd_T35 l0 x6_1).f2⟩ : S35)]) := ⟨_, rfl⟩
           replace H : (endonymref4_Ranges.l0 k1 l0 a1 y228 (wrap64 (x6_1 + 1))) = some r := by first | (rw [hy228]; with_reducible exact H) | (have H2_ := (Option.bind_some _ _).symm.trans H; rw [hy228]; with_reducible exact H2_) | (have H2_ := (Option.bind_some _ _).symm.trans H; with_reducible exact H2_) | with_reducible exact H | (rw [hy228]; exact H) | exact H
           have Ny228 := Aside0.mk hy228
           clear hy228
           have H' := Aside0.mk H
           clear H
           obtain ⟨Ao21, co21, eo21⟩ := Kd.R_slice HO_5.out
           subst eo21
           have p216 : 0 ≤ (x6_1 : Int) := of_decide_eq_true (by first | (with_reducible assumption) | assumption)
           have q216 : x6_1 < (l0.length : Int) := of_decide_eq_true (by first | (with_reducible assumption) | assumption)
           obtain ⟨ad216, e216, hx216_0, hx216_1, hx216_2⟩ := at_T35 HR0.out x6_1 p216 q216
           cases e216
           replace hx216_0 := (HB.out.cell (World.block_lt_of_cell? w _ hx216_0)).trans hx216_0
           replace hx216_1 := (HB.out.cell (World.block_lt_of_cell? w _ hx216_1)).trans hx216_1
           replace hx216_2 := (HB.out.cell (World.block_lt_of_cell? w _ hx216_2)).trans hx216_2
           replace p216 := eq_true p216
           replace q216 := eq_true q216
           have p217 : 0 ≤ ((ji8) : Int) := of_decide_eq_true (by first | (with_reducible assumption) | assumption)
           have q217 : (ji8) < (x5_1.length : Int) := of_decide_eq_true (by first | (with_reducible assumption) | assumption)
           obtain ⟨ad217, e217, hx217_0, hx217_1, hx217_2⟩ := at_T35 (Kd.R_reads' HO_5.out).2.2 (ji8) p217 q217
           cases e217
           replace p217 := eq_true p217
           replace q217 := eq_true q217
           have p218 : 0 ≤ (x6_1 : Int) := of_decide_eq_true (by first | (with_reducible assumption) | assumption)
           have q218 : x6_1 < (l0.length : Int) := of_decide_eq_true (by first | (with_reducible assumption) | assumption)
           obtain ⟨ad218, e218, hx218_0, hx218_1, hx218_2⟩ := at_T35 HR0.out x6_1 p218 q218
           obtain rfl : ad216 = ad218 := (by injection e218)
           replace hx218_0 := (HB.out.cell (World.block_lt_of_cell? w _ hx218_0)).trans hx218_0
           replace hx218_1 := (HB.out.cell (World.block_lt_of_cell? w _ hx218_1)).trans hx218_1
           replace hx218_2 := (HB.out.cell (World.block_lt_of_cell? w _ hx218_2)).trans hx218_2
           replace p218 := eq_true p218
           replace q218 := eq_true q218
           have p227 : 0 ≤ (x6_1 : Int) := of_decide_eq_true (by first | (with_reducible assumption) | assumption)
           have q227 : x6_1 < (l0.length : Int) := of_decide_eq_true (by first | (with_reducible assumption) | assumption)
           obtain ⟨ad227, e227, hx227_0, hx227_1, hx227_2⟩ := at_T35 HR0.out x6_1 p227 q227
           obtain rfl : ad216 = ad227 := (by injection e227)
           replace hx227_0 := (HB.out.cell (World.block_lt_of_cell? w _ hx227_0)).trans hx227_0
           replace hx227_1 := (HB.out.cell (World.block_lt_of_cell? w _ hx227_1)).trans hx227_1
           replace hx227_2 := (HB.out.cell (World.block_lt_of_cell? w _ hx227_2)).trans hx227_2
           replace p227 := eq_true p227
           replace q227 := eq_true q227
           go_wp2_with (first | ((with_reducible refine gate_builtin (b := .append) (xs := #[.tmp 16, .tmp 21]) rfl ?_); at_builtin; refine Kd.R_append k35 (w0 := w) w.heap.size rfl (.tmp 16) (.tmp 21) 22 35 (.agg #[(.int .i64 0), (.int .i64 0), (.int .i64 0)]) 24 rfl Try.underlying22 info35 rfl (by decide) (by omega) (.slice (some ad217) x5_1.length co21) x5_1 (⟨(rd_T35 l0 x6_1).f0, (rd_T35 l0 x6_1).f1, (rd_T35 l0 x6_1).f2⟩ : S35) [.int .i64 ((rd_T35 l0 x6_1).f0), .int .i64 ((rd_T35 l0 x6_1).f1), .int .i64 ((rd_T35 l0 x6_1).f2)] (fun _ => True) (fun _ => False) rfl rfl ?aP (fun _ hk => hk.elim) ?aF ?aO ?aB ?aS ?aL ?_; (case aP => exact k35_mkM _ _ _ (⟨(rd_T35 l0 x6_1).f0, (rd_T35 l0 x6_1).f1, (rd_T35 l0 x6_1).f2⟩ : S35)); (case aB => exact (by repeat (first | (with_reducible first | exact HB.out | apply below_alloc | apply pw_below_drewN | apply below_drew1) | exact HB.out))); (case aF => exact (fun _ _ => trivial)); (case aO => exact (by (with_reducible repeat (first | apply Kd.R_alloc | apply Kd.R_drewN | apply Kd.R_drew)); exact HO_5.out)); (case aS => exact (below_size (by repeat (first | (with_reducible first | exact HB.out | apply below_alloc | apply pw_below_drewN | apply below_drew1) | exact HB.out)))); (case aL => have := LMc20.out; omega); intro v229 w22 ho hb hg hat; rw [← Ny228.out] at ho; have n0_ := Aside0.mk (hb); have n1_ := Aside0.mk (ho); clear HB; clear HO_5; have HB := n0_; have HO230 := n1_; clear n0_ n1_; clear ho hb hg hat))
           repeat (go_quiet (first | ((with_reducible refine gate_builtin (b := .append) (xs := #[.tmp 16, .tmp 21]) rfl ?_); at_builtin; refine Kd.R_append k35 (w0 := w) w.heap.size rfl (.tmp 16) (.tmp 21) 22 35 (.agg #[(.int .i64 0), (.int .i64 0), (.int .i64 0)]) 24 rfl Try.underlying22 info35 rfl (by decide) (by omega) (.slice (some ad217) x5_1.length co21) x5_1 (⟨(rd_T35 l0 x6_1).f0, (rd_T35 l0 x6_1).f1, (rd_T35 l0 x6_1).f2⟩ : S35) [.int .i64 ((rd_T35 l0 x6_1).f0), .int .i64 ((rd_T35 l0 x6_1).f1), .int .i64 ((rd_T35 l0 x6_1).f2)] (fun _ => True) (fun _ => False) rfl rfl ?aP (fun _ hk => hk.elim) ?aF ?aO ?aB ?aS ?aL ?_; (case aP => exact k35_mkM _ _ _ (⟨(rd_T35 l0 x6_1).f0, (rd_T35 l0 x6_1).f1, (rd_T35 l0 x6_1).f2⟩ : S35)); (case aB => exact (by repeat (first | (with_reducible first | exact HB.out | apply below_alloc | apply pw_below_drewN | apply below_drew1) | exact HB.out))); (case aF => exact (fun _ _ => trivial)); (case aO => exact (by (with_reducible repeat (first | apply Kd.R_alloc | apply Kd.R_drewN | apply Kd.R_drew)); exact HO_5.out)); (case aS => exact (below_size (by repeat (first | (with_reducible first | exact HB.out | apply below_alloc | apply pw_below_drewN | apply below_drew1) | exact HB.out)))); (case aL => have := LMc20.out; omega); intro v229 w22 ho hb hg hat; rw [← Ny228.out] at ho; have n0_ := Aside0.mk (hb); have n1_ := Aside0.mk (ho); clear HB; clear HO_5; have HB := n0_; have HO230 := n1_; clear n0_ n1_; clear ho hb hg hat)); try go_wp2_with (first | ((with_reducible refine gate_builtin (b := .append) (xs := #[.tmp 16, .tmp 21]) rfl ?_); at_builtin; refine Kd.R_append k35 (w0 := w) w.heap.size rfl (.tmp 16) (.tmp 21) 22 35 (.agg #[(.int .i64 0), (.int .i64 0), (.int .i64 0)]) 24 rfl Try.underlying22 info35 rfl (by decide) (by omega) (.slice (some ad217) x5_1.length co21) x5_1 (⟨(rd_T35 l0 x6_1).f0, (rd_T35 l0 x6_1).f1, (rd_T35 l0 x6_1).f2⟩ : S35) [.int .i64 ((rd_T35 l0 x6_1).f0), .int .i64 ((rd_T35 l0 x6_1).f1), .int .i64 ((rd_T35 l0 x6_1).f2)] (fun _ => True) (fun _ => False) rfl rfl ?aP (fun _ hk => hk.elim) ?aF ?aO ?aB ?aS ?aL ?_; (case aP => exact k35_mkM _ _ _ (⟨(rd_T35 l0 x6_1).f0, (rd_T35 l0 x6_1).f1, (rd_T35 l0 x6_1).f2⟩ : S35)); (case aB => exact (by repeat (first | (with_reducible first | exact HB.out | apply below_alloc | apply pw_below_drewN | apply below_drew1) | exact HB.out))); (case aF => exact (fun _ _ => trivial)); (case aO => exact (by (with_reducible repeat (first | apply Kd.R_alloc | apply Kd.R_drewN | apply Kd.R_drew)); exact HO_5.out)); (case aS => exact (below_size (by repeat (first | (with_reducible first | exact HB.out | apply below_alloc | apply pw_below_drewN | apply below_drew1) | exact HB.out)))); (case aL => have := LMc20.out; omega); intro v229 w22 ho hb hg hat; rw [← Ny228.out] at ho; have n0_ := Aside0.mk (hb); have n1_ := Aside0.mk (ho); clear HB; clear HO_5; have HB := n0_; have HO230 := n1_; clear n0_ n1_; clear ho hb hg hat)))
           go_roundg k1
           case measure => have := HK1.out; omega
           case rel => exact ⟨(y228), (wrap64 (x6_1 + 1)), (by first | rfl | (simp; done) | (simp [*]; done)), H', ⟨by have := HK1.out; omega⟩, ⟨by (with_reducible repeat (first | apply Kd.R_alloc | apply Kd.R_drewN | apply Kd.R_drew)); exact HO230.out⟩, ⟨by repeat (first | (with_reducible first | exact HB.out | apply below_alloc | apply pw_below_drewN | apply below_drew1) | exact HB.out)⟩⟩
          ·rw [if_neg c20] at H
           exact absurd H (by simp)
        ·rw [if_neg c10] at H
         exact absurd H (by simp)
       ·rw [if_neg c9] at H
        exact absurd H (by simp)
      ·rw [if_neg c7] at H
       have c7b0 : decide (0 < (x5_1.length : Int)) = false := decide_eq_false c7
       have c7b1 : decide (0 < x5_1.length) = false := decide_eq_false (by omega)
       clear c7
       by_cases c23 : x5_1.length < 5864062014805
       ·rw [if_pos c23] at H
        have LMc23 := Aside0.mk c23
        clear c23
        obtain ⟨y232, hy232⟩ : ∃ y_ : List (S35), y_ = (x5_1 ++ [(⟨(rd_T35 l0 x6_1).f0, (rd_T35 l0 x6_1).f1, (rd_T35 l0 x6_1).f2⟩ : S35)]) := ⟨_, rfl⟩
        replace H : (endonymref4_Ranges.l0 k1 l0 a1 y232 (wrap64 (x6_1 + 1))) = some r := by first | (rw [hy232]; with_reducible exact H) | (have H2_ := (Option.bind_some _ _).symm.trans H; rw [hy232]; with_reducible exact H2_) | (have H2_ := (Option.bind_some _ _).symm.trans H; with_reducible exact H2_) | with_reducible exact H | (rw [hy232]; exact H) | exact H
        have Ny232 := Aside0.mk hy232
        clear hy232
        have H' := Aside0.mk H
        clear H
        obtain ⟨Ao24, co24, eo24⟩ := Kd.R_slice HO_5.out
        subst eo24
        have p216 : 0 ≤ (x6_1 : Int) := of_decide_eq_true (by first | (with_reducible assumption) | assumption)
        have q216 : x6_1 < (l0.length : Int) := of_decide_eq_true (by first | (with_reducible assumption) | assumption)
        obtain ⟨ad216, e216, hx216_0, hx216_1, hx216_2⟩ := at_T35 HR0.out x6_1 p216 q216
        cases e216
        replace hx216_0 := (HB.out.cell (World.block_lt_of_cell? w _ hx216_0)).trans hx216_0
        replace hx216_1 := (HB.out.cell (World.block_lt_of_cell? w _ hx216_1)).trans hx216_1
        replace hx216_2 := (HB.out.cell (World.block_lt_of_cell? w _ hx216_2)).trans hx216_2
        replace p216 := eq_true p216
        replace q216 := eq_true q216
        have p231 : 0 ≤ (x6_1 : Int) := of_decide_eq_true (by first | (with_reducible assumption) | assumption)
        have q231 : x6_1 < (l0.length : Int) := of_decide_eq_true (by first | (with_reducible assumption) | assumption)
        obtain ⟨ad231, e231, hx231_0, hx231_1, hx231_2⟩ := at_T35 HR0.out x6_1 p231 q231
        obtain rfl : ad216 = ad231 := (by injection e231)
        replace hx231_0 := (HB.out.cell (World.block_lt_of_cell? w _ hx231_0)).trans hx231_0
        replace hx231_1 := (HB.out.cell (World.block_lt_of_cell? w _ hx231_1)).trans hx231_1
        replace hx231_2 := (HB.out.cell (World.block_lt_of_cell? w _ hx231_2)).trans hx231_2
        replace p231 := eq_true p231
        replace q231 := eq_true q231
        go_wp2_with (first | ((with_reducible refine gate_builtin (b := .append) (xs := #[.tmp 16, .tmp 21]) rfl ?_); at_builtin; refine Kd.R_append k35 (w0 := w) w.heap.size rfl (.tmp 16) (.tmp 21) 22 35 (.agg #[(.int .i64 0), (.int .i64 0), (.int .i64 0)]) 24 rfl Try.underlying22 info35 rfl (by decide) (by omega) (.slice Ao24 x5_1.length co24) x5_1 (⟨(rd_T35 l0 x6_1).f0, (rd_T35 l0 x6_1).f1, (rd_T35 l0 x6_1).f2⟩ : S35) [.int .i64 ((rd_T35 l0 x6_1).f0), .int .i64 ((rd_T35 l0 x6_1).f1), .int .i64 ((rd_T35 l0 x6_1).f2)] (fun _ => True) (fun _ => False) rfl rfl ?aP (fun _ hk => hk.elim) ?aF ?aO ?aB ?aS ?aL ?_; (case aP => exact k35_mkM _ _ _ (⟨(rd_T35 l0 x6_1).f0, (rd_T35 l0 x6_1).f1, (rd_T35 l0 x6_1).f2⟩ : S35)); (case aB => exact (by repeat (first | (with_reducible first | exact HB.out | apply below_alloc | apply pw_below_drewN | apply below_drew1) | exact HB.out))); (case aF => exact (fun _ _ => trivial)); (case aO => exact (by (with_reducible repeat (first | apply Kd.R_alloc | apply Kd.R_drewN | apply Kd.R_drew)); exact HO_5.out)); (case aS => exact (below_size (by repeat (first | (with_reducible first | exact HB.out | apply below_alloc | apply pw_below_drewN | apply below_drew1) | exact HB.out)))); (case aL => have := LMc23.out; omega); intro v233 w25 ho hb hg hat; rw [← Ny232.out] at ho; have n0_ := Aside0.mk (hb); have n1_ := Aside0.mk (ho); clear HB; clear HO_5; have HB := n0_; have HO234 := n1_; clear n0_ n1_; clear ho hb hg hat))
        repeat (go_quiet (first | ((with_reducible refine gate_builtin (b := .append) (xs := #[.tmp 16, .tmp 21]) rfl ?_); at_builtin; refine Kd.R_append k35 (w0 := w) w.heap.size rfl (.tmp 16) (.tmp 21) 22 35 (.agg #[(.int .i64 0), (.int .i64 0), (.int .i64 0)]) 24 rfl Try.underlying22 info35 rfl (by decide) (by omega) (.slice Ao24 x5_1.length co24) x5_1 (⟨(rd_T35 l0 x6_1).f0, (rd_T35 l0 x6_1).f1, (rd_T35 l0 x6_1).f2⟩ : S35) [.int .i64 ((rd_T35 l0 x6_1).f0), .int .i64 ((rd_T35 l0 x6_1).f1), .int .i64 ((rd_T35 l0 x6_1).f2)] (fun _ => True) (fun _ => False) rfl rfl ?aP (fun _ hk => hk.elim) ?aF ?aO ?aB ?aS ?aL ?_; (case aP => exact k35_mkM _ _ _ (⟨(rd_T35 l0 x6_1).f0, (rd_T35 l0 x6_1).f1, (rd_T35 l0 x6_1).f2⟩ : S35)); (case aB => exact (by repeat (first | (with_reducible first | exact HB.out | apply below_alloc | apply pw_below_drewN | apply below_drew1) | exact HB.out))); (case aF => exact (fun _ _ => trivial)); (case aO => exact (by (with_reducible repeat (first | apply Kd.R_alloc | apply Kd.R_drewN | apply Kd.R_drew)); exact HO_5.out)); (case aS => exact (below_size (by repeat (first | (with_reducible first | exact HB.out | apply below_alloc | apply pw_below_drewN | apply below_drew1) | exact HB.out)))); (case aL => have := LMc23.out; omega); intro v233 w25 ho hb hg hat; rw [← Ny232.out] at ho; have n0_ := Aside0.mk (hb); have n1_ := Aside0.mk (ho); clear HB; clear HO_5; have HB := n0_; have HO234 := n1_; clear n0_ n1_; clear ho hb hg hat)); try go_wp2_with (first | ((with_reducible refine gate_builtin (b := .append) (xs := #[.tmp 16, .tmp 21]) rfl ?_); at_builtin; refine Kd.R_append k35 (w0 := w) w.heap.size rfl (.tmp 16) (.tmp 21) 22 35 (.agg #[(.int .i64 0), (.int .i64 0), (.int .i64 0)]) 24 rfl Try.underlying22 info35 rfl (by decide) (by omega) (.slice Ao24 x5_1.length co24) x5_1 (⟨(rd_T35 l0 x6_1).f0, (rd_T35 l0 x6_1).f1, (rd_T35 l0 x6_1).f2⟩ : S35) [.int .i64 ((rd_T35 l0 x6_1).f0), .int .i64 ((rd_T35 l0 x6_1).f1), .int .i64 ((rd_T35 l0 x6_1).f2)] (fun _ => True) (fun _ => False) rfl rfl ?aP (fun _ hk => hk.elim) ?aF ?aO ?aB ?aS ?aL ?_; (case aP => exact k35_mkM _ _ _ (⟨(rd_T35 l0 x6_1).f0, (rd_T35 l0 x6_1).f1, (rd_T35 l0 x6_1).f2⟩ : S35)); (case aB => exact (by repeat (first | (with_reducible first | exact HB.out | apply below_alloc | apply pw_below_drewN | apply below_drew1) | exact HB.out))); (case aF => exact (fun _ _ => trivial)); (case aO => exact (by (with_reducible repeat (first | apply Kd.R_alloc | apply Kd.R_drewN | apply Kd.R_drew)); exact HO_5.out)); (case aS => exact (below_size (by repeat (first | (with_reducible first | exact HB.out | apply below_alloc | apply pw_below_drewN | apply below_drew1) | exact HB.out)))); (case aL => have := LMc23.out; omega); intro v233 w25 ho hb hg hat; rw [← Ny232.out] at ho; have n0_ := Aside0.mk (hb); have n1_ := Aside0.mk (ho); clear HB; clear HO_5; have HB := n0_; have HO234 := n1_; clear n0_ n1_; clear ho hb hg hat)))
        go_roundg k1
        case measure => have := HK1.out; omega
        case rel => exact ⟨(y232), (wrap64 (x6_1 + 1)), (by first | rfl | (simp; done) | (simp [*]; done)), H', ⟨by have := HK1.out; omega⟩, ⟨by (with_reducible repeat (first | apply Kd.R_alloc | apply Kd.R_drewN | apply Kd.R_drew)); exact HO234.out⟩, ⟨by repeat (first | (with_reducible first | exact HB.out | apply below_alloc | apply pw_below_drewN | apply below_drew1) | exact HB.out)⟩⟩
       ·rw [if_neg c23] at H
        exact absurd H (by simp)
    ·rw [if_neg c4] at H
     exact absurd H (by simp)
   ·rw [if_neg c3] at H
    have c3b0 : decide (x6_1 < (l0.length : Int)) = false := decide_eq_false c3
    clear c3
    obtain rfl := Option.some.inj H
    go_wp2
    repeat (go_quiet (fail); try go_wp2)
    go_ret
    exact ⟨_, by first | rfl | (simp [errW_none, errW_some] <;> rfl) | (simp [*, errW_none, errW_some] <;> rfl), by (with_reducible repeat (first | apply Kd.R_alloc | apply Kd.R_drewN | apply Kd.R_drew)); exact HO_5.out, by repeat (first | (with_reducible first | exact HB.out | apply below_alloc | apply pw_below_drewN | apply below_drew1) | exact HB.out)⟩

end Go.Proofs.Ytiaodapgankjnaa.Q
