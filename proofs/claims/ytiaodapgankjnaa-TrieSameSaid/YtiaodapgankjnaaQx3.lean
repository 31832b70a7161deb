-- Written by wip/tools/pr.py of this session over the kit's print (widened); the words are the kit's print's own. Not trusted: Lean checks it.
import Derived.Test.YtiaodapgankjnaaQx0
namespace Go.Proofs.Ytiaodapgankjnaa.Q
open Go.RowKit Go.Proofs.YtiaodapgankjnaaW.PrintWords Go.Proofs.YtiaodapgankjnaaW.PrintLast Go.Proofs.YtiaodapgankjnaaW.PrintMore
attribute [local go_sem] max2_int min2_int max_two min_two max_three min_three max_four min_four   -- for this text's walks alone
set_option linter.unusedVariables false
set_option linter.unusedSimpArgs false

/-! ### trie_wrong: function 23 -/
mutual
def trie_wrong.l0 : Nat → List (S35) → Int → List (S35) → Int → Int → Option (Int × Int)
 | 0, _, _, _, _, _ => none
 | k + 1, x0, x1, x8, x9, x10 => if x10 < x9 then (if 0 ≤ x10 then (if x10 < (x8.length : Int) then (if ((rd_T35 x8 x10).f0) < 0 then (trie_wrong.j1 k x0 x1 x10 x8 x9 x10 true ((rd_T35 x8 x10).f0) ((rd_T35 x8 x10).f1) ((rd_T35 x8 x10).f2)) else (if ((rd_T35 x8 x10).f1) > 1114111 then (trie_wrong.j1 k x0 x1 x10 x8 x9 x10 true ((rd_T35 x8 x10).f0) ((rd_T35 x8 x10).f1) ((rd_T35 x8 x10).f2)) else (trie_wrong.j1 k x0 x1 x10 x8 x9 x10 (decide (((rd_T35 x8 x10).f0) > ((rd_T35 x8 x10).f1))) ((rd_T35 x8 x10).f0) ((rd_T35 x8 x10).f1) ((rd_T35 x8 x10).f2)))) else (none)) else (none)) else (if x1 < 0 then (some ((x0.length : Int), 42)) else (if x1 > 65535 then (some ((x0.length : Int), 42)) else (some (0, 0))))
def trie_wrong.j1 : Nat → List (S35) → Int → Int → List (S35) → Int → Int → Bool → Int → Int → Int → Option (Int × Int)
 | 0, _, _, _, _, _, _, _, _, _, _ => none
 | k + 1, x0, x1, x6, x8, x9, x10, x15, x126000, x126001, x126002 => if x15 = true then (some (x6, 40)) else (if x126002 < 0 then (trie_wrong.j2 k x0 x1 x6 x8 x9 x10 true x126000 x126001 x126002) else (trie_wrong.j2 k x0 x1 x6 x8 x9 x10 (decide (x126002 > 65535)) x126000 x126001 x126002))
def trie_wrong.j2 : Nat → List (S35) → Int → Int → List (S35) → Int → Int → Bool → Int → Int → Int → Option (Int × Int)
 | 0, _, _, _, _, _, _, _, _, _, _ => none
 | k + 1, x0, x1, x6, x8, x9, x10, x32, x126000, x126001, x126002 => if x32 = true then (some (x6, 42)) else (if x6 > 0 then (if 0 ≤ (wrap64 (x6 - 1)) then (if (wrap64 (x6 - 1)) < (x0.length : Int) then (if x126000 ≤ ((rd_T35 x0 (wrap64 (x6 - 1))).f1) then (some (x6, 41)) else (trie_wrong.l0 k x0 x1 x8 x9 (wrap64 (x10 + 1)))) else (none)) else (none)) else (trie_wrong.l0 k x0 x1 x8 x9 (wrap64 (x10 + 1))))
end
def trie_wrong.f (k : Nat) (l0 : List (S35)) (a1 : Int) : Option (Int × Int) := trie_wrong.l0 k l0 a1 l0 (l0.length : Int) 0
theorem trie_wrong.mono_l : ∀ k, (∀ y0 y1 y2 y3 y4, LeO (trie_wrong.l0 k y0 y1 y2 y3 y4) (trie_wrong.l0 (k + 1) y0 y1 y2 y3 y4)) ∧ (∀ y0 y1 y2 y3 y4 y5 y6 y7 y8 y9, LeO (trie_wrong.j1 k y0 y1 y2 y3 y4 y5 y6 y7 y8 y9) (trie_wrong.j1 (k + 1) y0 y1 y2 y3 y4 y5 y6 y7 y8 y9)) ∧ (∀ y0 y1 y2 y3 y4 y5 y6 y7 y8 y9, LeO (trie_wrong.j2 k y0 y1 y2 y3 y4 y5 y6 y7 y8 y9) (trie_wrong.j2 (k + 1) y0 y1 y2 y3 y4 y5 y6 y7 y8 y9))
 | 0 => ⟨fun _ _ _ _ _ r h => by simp [trie_wrong.l0] at h, fun _ _ _ _ _ _ _ _ _ _ r h => by simp [trie_wrong.j1] at h, fun _ _ _ _ _ _ _ _ _ _ r h => by simp [trie_wrong.j2] at h⟩
 | k + 1 => by
  obtain ⟨ih0, ih1, ih2⟩ := trie_wrong.mono_l k
  refine ⟨?_, ?_, ?_⟩
  ·intro y0 y1 y2 y3 y4
   unfold trie_wrong.l0
   repeat' first
   | (with_reducible exact ih0 _ _ _ _ _)
   | (with_reducible exact ih1 _ _ _ _ _ _ _ _ _ _)
   | (with_reducible exact ih2 _ _ _ _ _ _ _ _ _ _)
   | (with_reducible exact LeO.refl _)
   | (with_reducible exact LeO.none _)
   | (with_reducible refine LeO.ite ?_ ?_)
   | (with_reducible refine LeO.bind ?_ (fun _ => ?_))
   | exact ih0 _ _ _ _ _
   | exact ih1 _ _ _ _ _ _ _ _ _ _
   | exact ih2 _ _ _ _ _ _ _ _ _ _
   | exact LeO.none _
   | refine LeO.ite ?_ ?_
   | refine LeO.bind ?_ (fun _ => ?_)
  ·intro y0 y1 y2 y3 y4 y5 y6 y7 y8 y9
   unfold trie_wrong.j1
   repeat' first
   | (with_reducible exact ih0 _ _ _ _ _)
   | (with_reducible exact ih1 _ _ _ _ _ _ _ _ _ _)
   | (with_reducible exact ih2 _ _ _ _ _ _ _ _ _ _)
   | (with_reducible exact LeO.refl _)
   | (with_reducible exact LeO.none _)
   | (with_reducible refine LeO.ite ?_ ?_)
   | (with_reducible refine LeO.bind ?_ (fun _ => ?_))
   | exact ih0 _ _ _ _ _
   | exact ih1 _ _ _ _ _ _ _ _ _ _
   | exact ih2 _ _ _ _ _ _ _ _ _ _
   | exact LeO.none _
   | refine LeO.ite ?_ ?_
   | refine LeO.bind ?_ (fun _ => ?_)
  ·intro y0 y1 y2 y3 y4 y5 y6 y7 y8 y9
   unfold trie_wrong.j2
   repeat' first
   | (with_reducible exact ih0 _ _ _ _ _)
   | (with_reducible exact ih1 _ _ _ _ _ _ _ _ _ _)
   | (with_reducible exact ih2 _ _ _ _ _ _ _ _ _ _)
   | (with_reducible exact LeO.refl _)
   | (with_reducible exact LeO.none _)
   | (with_reducible refine LeO.ite ?_ ?_)
   | (with_reducible refine LeO.bind ?_ (fun _ => ?_))
   | exact ih0 _ _ _ _ _
   | exact ih1 _ _ _ _ _ _ _ _ _ _
   | exact ih2 _ _ _ _ _ _ _ _ _ _
   | exact LeO.none _
   | refine LeO.ite ?_ ?_
   | refine LeO.bind ?_ (fun _ => ?_)
theorem trie_wrong.mono : ∀ a0 a1 k, LeO (trie_wrong.f k a0 a1) (trie_wrong.f (k + 1) a0 a1) := by
 intro a0 a1 k
 obtain ⟨ih0, ih1, ih2⟩ := trie_wrong.mono_l k
 unfold trie_wrong.f
 repeat' first
   | (with_reducible exact ih0 _ _ _ _ _)
   | (with_reducible exact ih1 _ _ _ _ _ _ _ _ _ _)
   | (with_reducible exact ih2 _ _ _ _ _ _ _ _ _ _)
   | (with_reducible exact LeO.refl _)
   | (with_reducible exact LeO.none _)
   | (with_reducible refine LeO.ite ?_ ?_)
   | (with_reducible refine LeO.bind ?_ (fun _ => ?_))
   | exact ih0 _ _ _ _ _
   | exact ih1 _ _ _ _ _ _ _ _ _ _
   | exact ih2 _ _ _ _ _ _ _ _ _ _
   | exact LeO.none _
   | refine LeO.ite ?_ ?_
   | refine LeO.bind ?_ (fun _ => ?_)
set_option maxHeartbeats 8000000 in
set_option maxRecDepth 100000 in
theorem trie_wrong.calls (k : Nat) (A0 : Option Addr) (c0 : Nat) (l0 : List (S35)) (a1 : Int) (r1 : Int) (r2 : Int) (w : World) (hr0 : Kd.C k35 w A0 l0.length l0) (hc0 : l0.length ≤ c0) (h : trie_wrong.f k l0 a1 = some (r1, r2)) :
  Calls Try.prog 23 #[.slice A0 l0.length c0, .int .i64 a1] w fun e w' => e = .returned (.tuple #[.int .i64 r1, .int .i64 r2]) ∧ Below w.heap.size w w' := by
 have hu35 := Try.underlying35
 have HR0 := Aside0.mk hr0
 have HC0 := Aside0.mk hc0
 clear hr0 hc0
 have HB := Aside0.mk (Below.refl w.heap.size w)
 have H : (trie_wrong.l0 k l0 a1 l0 (l0.length : Int) 0) = some (r1, r2) := h
 clear h
 have H' := Aside0.mk H
 clear H
 go_enter Try.func23, Try.ntmps23
 go_wp2
 repeat (go_quiet (fail); try go_wp2)
 go_loopg [10] k (fun kq v10 w' => ∃ (x10_1 : Int), v10 = .int .i64 x10_1 ∧ Aside0 (trie_wrong.l0 kq l0 a1 l0 (l0.length : Int) x10_1 = some (r1, r2)) ∧ Aside0 (kq ≤ k) ∧ Aside0 (Below w.heap.size w w'))
 case atStart => exact ⟨(0), (by first | rfl | (simp; done) | (simp [*]; done)), H', ⟨Nat.le_refl _⟩, ⟨by repeat (first | (with_reducible first | exact HB.out | apply below_alloc | apply pw_below_drewN | apply below_drew1) | exact HB.out)⟩⟩
 case round =>
  clear H'
  try clear c2
  try clear p2
  obtain ⟨x10_1, rfl, HA, HK1, HB⟩ := hrel
  cases gk with
  | zero => exact absurd HA.out (by simp [trie_wrong.l0])
  | succ k1 =>
   have H := HA.out
   clear HA
   simp only [trie_wrong.l0] at H
   by_cases c3 : x10_1 < (l0.length : Int)
   ·rw [if_pos c3] at H
    have c3b0 : decide (x10_1 < (l0.length : Int)) = true := decide_eq_true c3
    clear c3
    by_cases c4 : 0 ≤ x10_1
    ·rw [if_pos c4] at H
     have c4b0 : decide (0 ≤ x10_1) = true := decide_eq_true c4
     clear c4
     by_cases c5 : x10_1 < (l0.length : Int)
     ·rw [if_pos c5] at H
      have c5b0 : decide (x10_1 < (l0.length : Int)) = true := decide_eq_true c5
      clear c5
      have HC6 := Aside0.mk H
      clear H
      have p124 : 0 ≤ (x10_1 : Int) := of_decide_eq_true (by first | (with_reducible assumption) | assumption)
      have q124 : x10_1 < (l0.length : Int) := of_decide_eq_true (by first | (with_reducible assumption) | assumption)
      obtain ⟨ad124, e124, hx124_0, hx124_1, hx124_2⟩ := at_T35 HR0.out x10_1 p124 q124
      cases e124
      replace hx124_0 := (HB.out.cell (World.block_lt_of_cell? w _ hx124_0)).trans hx124_0
      replace hx124_1 := (HB.out.cell (World.block_lt_of_cell? w _ hx124_1)).trans hx124_1
      replace hx124_2 := (HB.out.cell (World.block_lt_of_cell? w _ hx124_2)).trans hx124_2
      replace p124 := eq_true p124
      replace q124 := eq_true q124
      go_upto_region 4 with (first | ((with_reducible refine gate_dst (N := 7) rfl ?_); refine box_event ?hg (N := 7) ?hd (cs := #[.int .i64 0, .int .i64 0, .int .i64 0]) (t := 35) ?hr ?_; (case hd => rfl); (case hg => rfl); (case hr => first | (go_simp; done) | (go_simp; rfl)); intro gb125 hg w7 hbox hb; have n0_ := Aside0.mk (below_step (by repeat (first | (with_reducible first | exact HB.out | apply below_alloc | apply pw_below_drewN | apply below_drew1) | exact HB.out)) hb); have n1_ := Aside0.mk (hbox); have n2_ := Aside0.mk ((by rw [hg]; exact (below_size (by repeat (first | (with_reducible first | exact HB.out | apply below_alloc | apply pw_below_drewN | apply below_drew1) | exact HB.out))) : w.heap.size ≤ gb125)); have n3_ := Aside0.mk ((by rw [hg]; exact (below_size (by repeat (first | (with_reducible first | exact HB.out | apply below_alloc | apply pw_below_drewN | apply below_drew1) | exact HB.out))) : w.heap.size ≤ gb125)); clear HB; have HB := n0_; have BK125 := n1_; have GW125 := n2_; have GE125 := n3_; clear n0_ n1_ n2_ n3_; clear hb hbox hg; have hcz8_0 : w7.cell? ⟨gb125, 0, none⟩ = some (.int .i64 0) := (blk_cell BK125.out 0).trans rfl; have hcz8_1 : w7.cell? ⟨gb125, 1, none⟩ = some (.int .i64 0) := (blk_cell BK125.out 1).trans rfl; have hcz8_2 : w7.cell? ⟨gb125, 2, none⟩ = some (.int .i64 0) := (blk_cell BK125.out 2).trans rfl; have hfz8_0 := blk_frozen BK125.out 0; have hfz8_1 := blk_frozen BK125.out 1; have hfz8_2 := blk_frozen BK125.out 2))
      repeat (go_quiet (first | ((with_reducible refine gate_dst (N := 7) rfl ?_); refine box_event ?hg (N := 7) ?hd (cs := #[.int .i64 0, .int .i64 0, .int .i64 0]) (t := 35) ?hr ?_; (case hd => rfl); (case hg => rfl); (case hr => first | (go_simp; done) | (go_simp; rfl)); intro gb125 hg w7 hbox hb; have n0_ := Aside0.mk (below_step (by repeat (first | (with_reducible first | exact HB.out | apply below_alloc | apply pw_below_drewN | apply below_drew1) | exact HB.out)) hb); have n1_ := Aside0.mk (hbox); have n2_ := Aside0.mk ((by rw [hg]; exact (below_size (by repeat (first | (with_reducible first | exact HB.out | apply below_alloc | apply pw_below_drewN | apply below_drew1) | exact HB.out))) : w.heap.size ≤ gb125)); have n3_ := Aside0.mk ((by rw [hg]; exact (below_size (by repeat (first | (with_reducible first | exact HB.out | apply below_alloc | apply pw_below_drewN | apply below_drew1) | exact HB.out))) : w.heap.size ≤ gb125)); clear HB; have HB := n0_; have BK125 := n1_; have GW125 := n2_; have GE125 := n3_; clear n0_ n1_ n2_ n3_; clear hb hbox hg; have hcz8_0 : w7.cell? ⟨gb125, 0, none⟩ = some (.int .i64 0) := (blk_cell BK125.out 0).trans rfl; have hcz8_1 : w7.cell? ⟨gb125, 1, none⟩ = some (.int .i64 0) := (blk_cell BK125.out 1).trans rfl; have hcz8_2 : w7.cell? ⟨gb125, 2, none⟩ = some (.int .i64 0) := (blk_cell BK125.out 2).trans rfl; have hfz8_0 := blk_frozen BK125.out 0; have hfz8_1 := blk_frozen BK125.out 1; have hfz8_2 := blk_frozen BK125.out 2)); go_upto_region 4 with (first | ((with_reducible refine gate_dst (N := 7) rfl ?_); refine box_event ?hg (N := 7) ?hd (cs := #[.int .i64 0, .int .i64 0, .int .i64 0]) (t := 35) ?hr ?_; (case hd => rfl); (case hg => rfl); (case hr => first | (go_simp; done) | (go_simp; rfl)); intro gb125 hg w7 hbox hb; have n0_ := Aside0.mk (below_step (by repeat (first | (with_reducible first | exact HB.out | apply below_alloc | apply pw_below_drewN | apply below_drew1) | exact HB.out)) hb); have n1_ := Aside0.mk (hbox); have n2_ := Aside0.mk ((by rw [hg]; exact (below_size (by repeat (first | (with_reducible first | exact HB.out | apply below_alloc | apply pw_below_drewN | apply below_drew1) | exact HB.out))) : w.heap.size ≤ gb125)); have n3_ := Aside0.mk ((by rw [hg]; exact (below_size (by repeat (first | (with_reducible first | exact HB.out | apply below_alloc | apply pw_below_drewN | apply below_drew1) | exact HB.out))) : w.heap.size ≤ gb125)); clear HB; have HB := n0_; have BK125 := n1_; have GW125 := n2_; have GE125 := n3_; clear n0_ n1_ n2_ n3_; clear hb hbox hg; have hcz8_0 : w7.cell? ⟨gb125, 0, none⟩ = some (.int .i64 0) := (blk_cell BK125.out 0).trans rfl; have hcz8_1 : w7.cell? ⟨gb125, 1, none⟩ = some (.int .i64 0) := (blk_cell BK125.out 1).trans rfl; have hcz8_2 : w7.cell? ⟨gb125, 2, none⟩ = some (.int .i64 0) := (blk_cell BK125.out 2).trans rfl; have hfz8_0 := blk_frozen BK125.out 0; have hfz8_1 := blk_frozen BK125.out 1; have hfz8_2 := blk_frozen BK125.out 2)))
      (try simp only [Act.put, List.setIfInBounds_toArray, List.set_cons_zero, List.set_cons_succ])
      go_cut [15] (fun v15 wc => ∃ (kq : Nat) (x15_5 : Bool), v15 = .bool x15_5 ∧ Aside0 (trie_wrong.j1 kq l0 a1 x10_1 l0 (l0.length : Int) x10_1 x15_5 ((rd_T35 l0 x10_1).f0) ((rd_T35 l0 x10_1).f1) ((rd_T35 l0 x10_1).f2) = some (r1, r2)) ∧ Aside0 (kq ≤ k1) ∧ Aside0 (wc.heap[gb125]? = some (.cells #[.int .i64 ((rd_T35 l0 x10_1).f0), .int .i64 ((rd_T35 l0 x10_1).f1), .int .i64 ((rd_T35 l0 x10_1).f2)] 35 (0, 0))) ∧ Aside0 (Below w.heap.size w wc))
      case first =>
       have H := HC6.out
       clear HC6
       by_cases c9 : ((rd_T35 l0 x10_1).f0) < 0
       ·rw [if_pos c9] at H
        have c9b0 : decide (((rd_T35 l0 x10_1).f0) < 0) = true := decide_eq_true c9
        clear c9
        (first | rw [c9b0] | (simp only [i64_w, i32_w]; rw [c9b0]) | skip)
        have H' := Aside0.mk H
        clear H
        have hcz10_0 : w7.cell? ⟨gb125, 0, none⟩ = some (.int .i64 0) := (blk_cell BK125.out 0).trans rfl
        have hcz10_1 : w7.cell? ⟨gb125, 1, none⟩ = some (.int .i64 0) := (blk_cell BK125.out 1).trans rfl
        have hcz10_2 : w7.cell? ⟨gb125, 2, none⟩ = some (.int .i64 0) := (blk_cell BK125.out 2).trans rfl
        have hfz10_0 := blk_frozen BK125.out 0
        have hfz10_1 := blk_frozen BK125.out 1
        have hfz10_2 := blk_frozen BK125.out 2
        go_wp2
        repeat (go_quiet (fail); try go_wp2)
        go_meet
        case rel => exact ⟨_, (true), (by first | rfl | (simp; done) | (simp [*]; done)), H', ⟨by have := HK1.out; first | omega | exact Nat.le_refl _⟩, ⟨by (with_reducible repeat (first | refine blk_drewN ?_ _ | refine blk_drew ?_ | refine blk_alloc ?_ _)); refine blk_put (cs := #[.int .i64 ((rd_T35 l0 x10_1).f0), .int .i64 ((rd_T35 l0 x10_1).f1), .int .i64 0]) ?_ 2 _ rfl; (with_reducible repeat (first | refine blk_drewN ?_ _ | refine blk_drew ?_ | refine blk_alloc ?_ _)); refine blk_put (cs := #[.int .i64 ((rd_T35 l0 x10_1).f0), .int .i64 0, .int .i64 0]) ?_ 1 _ rfl; (with_reducible repeat (first | refine blk_drewN ?_ _ | refine blk_drew ?_ | refine blk_alloc ?_ _)); refine blk_put (cs := #[.int .i64 0, .int .i64 0, .int .i64 0]) ?_ 0 _ rfl; (with_reducible repeat (first | refine blk_drewN ?_ _ | refine blk_drew ?_ | refine blk_alloc ?_ _)); exact BK125.out⟩, ⟨by repeat (first | (with_reducible first | exact HB.out | apply below_alloc | apply pw_below_drewN | apply below_drew1 | refine below_set ?_ GE125.out) | exact HB.out)⟩⟩
       ·rw [if_neg c9] at H
        have c9b0 : decide (((rd_T35 l0 x10_1).f0) < 0) = false := decide_eq_false c9
        clear c9
        (first | rw [c9b0] | (simp only [i64_w, i32_w]; rw [c9b0]) | skip)
        by_cases c11 : ((rd_T35 l0 x10_1).f1) > 1114111
        ·rw [if_pos c11] at H
         have c11b0 : decide (1114111 < ((rd_T35 l0 x10_1).f1)) = true := decide_eq_true c11
         clear c11
         have H' := Aside0.mk H
         clear H
         have hcz12_0 : w7.cell? ⟨gb125, 0, none⟩ = some (.int .i64 0) := (blk_cell BK125.out 0).trans rfl
         have hcz12_1 : w7.cell? ⟨gb125, 1, none⟩ = some (.int .i64 0) := (blk_cell BK125.out 1).trans rfl
         have hcz12_2 : w7.cell? ⟨gb125, 2, none⟩ = some (.int .i64 0) := (blk_cell BK125.out 2).trans rfl
         have hfz12_0 := blk_frozen BK125.out 0
         have hfz12_1 := blk_frozen BK125.out 1
         have hfz12_2 := blk_frozen BK125.out 2
         go_wp2
         repeat (go_quiet (fail); try go_wp2)
         go_meet
         case rel => exact ⟨_, (true), (by first | rfl | (simp; done) | (simp [*]; done)), H', ⟨by have := HK1.out; first | omega | exact Nat.le_refl _⟩, ⟨by (with_reducible repeat (first | refine blk_drewN ?_ _ | refine blk_drew ?_ | refine blk_alloc ?_ _)); refine blk_put (cs := #[.int .i64 ((rd_T35 l0 x10_1).f0), .int .i64 ((rd_T35 l0 x10_1).f1), .int .i64 0]) ?_ 2 _ rfl; (with_reducible repeat (first | refine blk_drewN ?_ _ | refine blk_drew ?_ | refine blk_alloc ?_ _)); refine blk_put (cs := #[.int .i64 ((rd_T35 l0 x10_1).f0), .int .i64 0, .int .i64 0]) ?_ 1 _ rfl; (with_reducible repeat (first | refine blk_drewN ?_ _ | refine blk_drew ?_ | refine blk_alloc ?_ _)); refine blk_put (cs := #[.int .i64 0, .int .i64 0, .int .i64 0]) ?_ 0 _ rfl; (with_reducible repeat (first | refine blk_drewN ?_ _ | refine blk_drew ?_ | refine blk_alloc ?_ _)); exact BK125.out⟩, ⟨by repeat (first | (with_reducible first | exact HB.out | apply below_alloc | apply pw_below_drewN | apply below_drew1 | refine below_set ?_ GE125.out) | exact HB.out)⟩⟩
        ·rw [if_neg c11] at H
         have c11b0 : decide (1114111 < ((rd_T35 l0 x10_1).f1)) = false := decide_eq_false c11
         clear c11
         have H' := Aside0.mk H
         clear H
         have hcz13_0 : w7.cell? ⟨gb125, 0, none⟩ = some (.int .i64 0) := (blk_cell BK125.out 0).trans rfl
         have hcz13_1 : w7.cell? ⟨gb125, 1, none⟩ = some (.int .i64 0) := (blk_cell BK125.out 1).trans rfl
         have hcz13_2 : w7.cell? ⟨gb125, 2, none⟩ = some (.int .i64 0) := (blk_cell BK125.out 2).trans rfl
         have hfz13_0 := blk_frozen BK125.out 0
         have hfz13_1 := blk_frozen BK125.out 1
         have hfz13_2 := blk_frozen BK125.out 2
         go_wp2
         repeat (go_quiet (fail); try go_wp2)
         go_meet
         case rel => exact ⟨_, (decide (((rd_T35 l0 x10_1).f0) > ((rd_T35 l0 x10_1).f1))), (by first | rfl | (simp; done) | (simp [*]; done)), H', ⟨by have := HK1.out; first | omega | exact Nat.le_refl _⟩, ⟨by (with_reducible repeat (first | refine blk_drewN ?_ _ | refine blk_drew ?_ | refine blk_alloc ?_ _)); refine blk_put (cs := #[.int .i64 ((rd_T35 l0 x10_1).f0), .int .i64 ((rd_T35 l0 x10_1).f1), .int .i64 0]) ?_ 2 _ rfl; (with_reducible repeat (first | refine blk_drewN ?_ _ | refine blk_drew ?_ | refine blk_alloc ?_ _)); refine blk_put (cs := #[.int .i64 ((rd_T35 l0 x10_1).f0), .int .i64 0, .int .i64 0]) ?_ 1 _ rfl; (with_reducible repeat (first | refine blk_drewN ?_ _ | refine blk_drew ?_ | refine blk_alloc ?_ _)); refine blk_put (cs := #[.int .i64 0, .int .i64 0, .int .i64 0]) ?_ 0 _ rfl; (with_reducible repeat (first | refine blk_drewN ?_ _ | refine blk_drew ?_ | refine blk_alloc ?_ _)); exact BK125.out⟩, ⟨by repeat (first | (with_reducible first | exact HB.out | apply below_alloc | apply pw_below_drewN | apply below_drew1 | refine below_set ?_ GE125.out) | exact HB.out)⟩⟩
      case rest =>
       clear HC6
       try clear c1
       try clear p1
       try clear q1
       try clear hx1
       try clear c2
       try clear p2
       try clear c3
       try clear c3b0
       try clear c4
       try clear c4b0
       try clear c5
       try clear c5b0
       try clear c9
       try clear c9b0
       try clear c11
       try clear c11b0
       try clear p12
       try clear q12
       try clear hx12
       try clear hcz10_0
       try clear hcz10_1
       try clear hcz10_2
       try clear hcz12_0
       try clear hcz12_1
       try clear hcz12_2
       try clear hcz13_0
       try clear hcz13_1
       try clear hcz13_2
       try clear hcz8_0
       try clear hcz8_1
       try clear hcz8_2
       try clear hfz10_0
       try clear hfz10_1
       try clear hfz10_2
       try clear hfz12_0
       try clear hfz12_1
       try clear hfz12_2
       try clear hfz13_0
       try clear hfz13_1
       try clear hfz13_2
       try clear hfz8_0
       try clear hfz8_1
       try clear hfz8_2
       try clear hx124_0
       try clear hx124_1
       try clear hx124_2
       try clear p124
       try clear p2
       try clear q124
       obtain ⟨kq, x15_5, rfl, HA, HJ5, BK125, HB⟩ := hcut
       cases kq with
       | zero => exact absurd HA.out (by simp [trie_wrong.j1])
       | succ kj5 =>
        have H := HA.out
        clear HA
        simp only [trie_wrong.j1] at H
        by_cases c14 : x15_5 = true
        ·subst c14
         have H1 : (some (x10_1, 40)) = some (r1, r2) := by rw [if_pos rfl] at H; exact H
         clear H
         have H := H1
         clear H1
         simp only [Option.some.injEq, Prod.mk.injEq] at H
         obtain ⟨rfl, rfl⟩ := H
         go_wp2
         repeat (go_quiet (fail); try go_wp2)
         go_ret2
         exact ⟨by first | rfl | (simp [errW_none, errW_some] <;> rfl) | (simp [*, errW_none, errW_some] <;> rfl), by repeat (first | (with_reducible first | exact HB.out | apply below_alloc | apply pw_below_drewN | apply below_drew1 | refine below_set ?_ GE125.out) | exact HB.out)⟩
        ·replace c14 := Bool.eq_false_iff.mpr c14
         subst c14
         have H1 : (if ((rd_T35 l0 x10_1).f2) < 0 then (trie_wrong.j2 kj5 l0 a1 x10_1 l0 (l0.length : Int) x10_1 true ((rd_T35 l0 x10_1).f0) ((rd_T35 l0 x10_1).f1) ((rd_T35 l0 x10_1).f2)) else (trie_wrong.j2 kj5 l0 a1 x10_1 l0 (l0.length : Int) x10_1 (decide (((rd_T35 l0 x10_1).f2) > 65535)) ((rd_T35 l0 x10_1).f0) ((rd_T35 l0 x10_1).f1) ((rd_T35 l0 x10_1).f2))) = some (r1, r2) := by rw [if_neg (show ¬ (false = true) by decide)] at H; exact H
         clear H
         have H := H1
         clear H1
         have HC15 := Aside0.mk H
         clear H
         go_upto_region 6 with (fail)
         repeat (go_quiet (fail); go_upto_region 6 with (fail))
         go_cut [32] (fun v32 wc => ∃ (kq : Nat) (x32_14 : Bool), v32 = .bool x32_14 ∧ Aside0 (trie_wrong.j2 kq l0 a1 x10_1 l0 (l0.length : Int) x10_1 x32_14 ((rd_T35 l0 x10_1).f0) ((rd_T35 l0 x10_1).f1) ((rd_T35 l0 x10_1).f2) = some (r1, r2)) ∧ Aside0 (kq ≤ kj5) ∧ Aside0 (wc.heap[gb125]? = some (.cells #[.int .i64 ((rd_T35 l0 x10_1).f0), .int .i64 ((rd_T35 l0 x10_1).f1), .int .i64 ((rd_T35 l0 x10_1).f2)] 35 (0, 0))) ∧ Aside0 (Below w.heap.size w wc))
         case first =>
          have H := HC15.out
          clear HC15
          by_cases c16 : ((rd_T35 l0 x10_1).f2) < 0
          ·rw [if_pos c16] at H
           have c16b0 : decide (((rd_T35 l0 x10_1).f2) < 0) = true := decide_eq_true c16
           clear c16
           (first | rw [c16b0] | (simp only [i64_w, i32_w]; rw [c16b0]) | skip)
           have H' := Aside0.mk H
           clear H
           have hcz17_0 : wc.cell? ⟨gb125, 0, none⟩ = some (.int .i64 ((rd_T35 l0 x10_1).f0)) := (blk_cell BK125.out 0).trans rfl
           have hcz17_1 : wc.cell? ⟨gb125, 1, none⟩ = some (.int .i64 ((rd_T35 l0 x10_1).f1)) := (blk_cell BK125.out 1).trans rfl
           have hcz17_2 : wc.cell? ⟨gb125, 2, none⟩ = some (.int .i64 ((rd_T35 l0 x10_1).f2)) := (blk_cell BK125.out 2).trans rfl
           have hfz17_0 := blk_frozen BK125.out 0
           have hfz17_1 := blk_frozen BK125.out 1
           have hfz17_2 := blk_frozen BK125.out 2
           go_wp2
           repeat (go_quiet (fail); try go_wp2)
           go_meet
           case rel => exact ⟨_, (true), (by first | rfl | (simp; done) | (simp [*]; done)), H', ⟨by have := HK1.out; have := HJ5.out; first | omega | exact Nat.le_refl _⟩, ⟨by (with_reducible repeat (first | refine blk_drewN ?_ _ | refine blk_drew ?_ | refine blk_alloc ?_ _)); exact BK125.out⟩, ⟨by repeat (first | (with_reducible first | exact HB.out | apply below_alloc | apply pw_below_drewN | apply below_drew1 | refine below_set ?_ GE125.out) | exact HB.out)⟩⟩
          ·rw [if_neg c16] at H
           have c16b0 : decide (((rd_T35 l0 x10_1).f2) < 0) = false := decide_eq_false c16
           clear c16
           (first | rw [c16b0] | (simp only [i64_w, i32_w]; rw [c16b0]) | skip)
           have H' := Aside0.mk H
           clear H
           have hcz18_0 : wc.cell? ⟨gb125, 0, none⟩ = some (.int .i64 ((rd_T35 l0 x10_1).f0)) := (blk_cell BK125.out 0).trans rfl
           have hcz18_1 : wc.cell? ⟨gb125, 1, none⟩ = some (.int .i64 ((rd_T35 l0 x10_1).f1)) := (blk_cell BK125.out 1).trans rfl
           have hcz18_2 : wc.cell? ⟨gb125, 2, none⟩ = some (.int .i64 ((rd_T35 l0 x10_1).f2)) := (blk_cell BK125.out 2).trans rfl
           have hfz18_0 := blk_frozen BK125.out 0
           have hfz18_1 := blk_frozen BK125.out 1
           have hfz18_2 := blk_frozen BK125.out 2
           go_wp2
           repeat (go_quiet (fail); try go_wp2)
           go_meet
           case rel => exact ⟨_, (decide (((rd_T35 l0 x10_1).f2) > 65535)), (by first | rfl | (simp; done) | (simp [*]; done)), H', ⟨by have := HK1.out; have := HJ5.out; first | omega | exact Nat.le_refl _⟩, ⟨by (with_reducible repeat (first | refine blk_drewN ?_ _ | refine blk_drew ?_ | refine blk_alloc ?_ _)); exact BK125.out⟩, ⟨by repeat (first | (with_reducible first | exact HB.out | apply below_alloc | apply pw_below_drewN | apply below_drew1 | refine below_set ?_ GE125.out) | exact HB.out)⟩⟩
         case rest =>
          clear HC15
          try clear c1
          try clear p1
          try clear q1
          try clear hx1
          try clear c2
          try clear p2
          try clear c3
          try clear c3b0
          try clear c4
          try clear c4b0
          try clear c5
          try clear c5b0
          try clear c9
          try clear c9b0
          try clear c11
          try clear c11b0
          try clear p12
          try clear q12
          try clear hx12
          try clear c14
          try clear c16
          try clear c16b0
          try clear hcz10_0
          try clear hcz10_1
          try clear hcz10_2
          try clear hcz12_0
          try clear hcz12_1
          try clear hcz12_2
          try clear hcz13_0
          try clear hcz13_1
          try clear hcz13_2
          try clear hcz17_0
          try clear hcz17_1
          try clear hcz17_2
          try clear hcz18_0
          try clear hcz18_1
          try clear hcz18_2
          try clear hcz8_0
          try clear hcz8_1
          try clear hcz8_2
          try clear hfz10_0
          try clear hfz10_1
          try clear hfz10_2
          try clear hfz12_0
          try clear hfz12_1
          try clear hfz12_2
          try clear hfz13_0
          try clear hfz13_1
          try clear hfz13_2
          try clear hfz17_0
          try clear hfz17_1
          try clear hfz17_2
          try clear hfz18_0
          try clear hfz18_1
          try clear hfz18_2
          try clear hfz8_0
          try clear hfz8_1
          try clear hfz8_2
          try clear hx124_0
          try clear hx124_1
          try clear hx124_2
          try clear p1
          try clear p12
          try clear p124
          try clear p2
          try clear q1
          try clear q12
          try clear q124
          obtain ⟨kq, x32_14, rfl, HA, HJ14, BK125, HB⟩ := hcut
          cases kq with
          | zero => exact absurd HA.out (by simp [trie_wrong.j2])
          | succ kj14 =>
           have H := HA.out
           clear HA
           simp only [trie_wrong.j2] at H
           by_cases c19 : x32_14 = true
           ·subst c19
            have H1 : (some (x10_1, 42)) = some (r1, r2) := by rw [if_pos rfl] at H; exact H
            clear H
            have H := H1
            clear H1
            simp only [Option.some.injEq, Prod.mk.injEq] at H
            obtain ⟨rfl, rfl⟩ := H
            go_wp2
            repeat (go_quiet (fail); try go_wp2)
            go_ret2
            exact ⟨by first | rfl | (simp [errW_none, errW_some] <;> rfl) | (simp [*, errW_none, errW_some] <;> rfl), by repeat (first | (with_reducible first | exact HB.out | apply below_alloc | apply pw_below_drewN | apply below_drew1 | refine below_set ?_ GE125.out) | exact HB.out)⟩
           ·replace c19 := Bool.eq_false_iff.mpr c19
            subst c19
            have H1 : (if x10_1 > 0 then (if 0 ≤ (wrap64 (x10_1 - 1)) then (if (wrap64 (x10_1 - 1)) < (l0.length : Int) then (if ((rd_T35 l0 x10_1).f0) ≤ ((rd_T35 l0 (wrap64 (x10_1 - 1))).f1) then (some (x10_1, 41)) else (trie_wrong.l0 kj14 l0 a1 l0 (l0.length : Int) (wrap64 (x10_1 + 1)))) else (none)) else (none)) else (trie_wrong.l0 kj14 l0 a1 l0 (l0.length : Int) (wrap64 (x10_1 + 1)))) = some (r1, r2) := by rw [if_neg (show ¬ (false = true) by decide)] at H; exact H
            clear H
            have H := H1
            clear H1
            by_cases c20 : x10_1 > 0
            ·rw [if_pos c20] at H
             have c20b0 : decide (0 < x10_1) = true := decide_eq_true c20
             clear c20
             obtain ⟨ji21, hji21⟩ : ∃ j_ : Int, (wrap64 (x10_1 - 1)) = j_ := ⟨_, rfl⟩
             replace H : (if 0 ≤ (ji21) then (if (ji21) < (l0.length : Int) then (if ((rd_T35 l0 x10_1).f0) ≤ ((rd_T35 l0 (ji21)).f1) then (some (x10_1, 41)) else (trie_wrong.l0 kj14 l0 a1 l0 (l0.length : Int) (wrap64 (x10_1 + 1)))) else (none)) else (none)) = some (r1, r2) := by first | (rw [hji21] at H; exact H) | (simp only [hji21] at H ⊢; exact H)
             have hji21w : (IntKind.i64.wrap (x10_1 - 1)) = ji21 := (i64_w _).trans hji21
             by_cases c22 : 0 ≤ (ji21)
             ·rw [if_pos c22] at H
              have c22b0 : decide (0 ≤ (ji21)) = true := decide_eq_true c22
              clear c22
              by_cases c23 : (ji21) < (l0.length : Int)
              ·rw [if_pos c23] at H
               have c23b0 : decide ((ji21) < (l0.length : Int)) = true := decide_eq_true c23
               clear c23
               by_cases c24 : ((rd_T35 l0 x10_1).f0) ≤ ((rd_T35 l0 (ji21)).f1)
               ·rw [if_pos c24] at H
                have c24b0 : decide (((rd_T35 l0 x10_1).f0) ≤ ((rd_T35 l0 (ji21)).f1)) = true := decide_eq_true c24
                clear c24
                simp only [Option.some.injEq, Prod.mk.injEq] at H
                obtain ⟨rfl, rfl⟩ := H
                have hcz25_0 : wc.cell? ⟨gb125, 0, none⟩ = some (.int .i64 ((rd_T35 l0 x10_1).f0)) := (blk_cell BK125.out 0).trans rfl
                have hcz25_1 : wc.cell? ⟨gb125, 1, none⟩ = some (.int .i64 ((rd_T35 l0 x10_1).f1)) := (blk_cell BK125.out 1).trans rfl
                have hcz25_2 : wc.cell? ⟨gb125, 2, none⟩ = some (.int .i64 ((rd_T35 l0 x10_1).f2)) := (blk_cell BK125.out 2).trans rfl
                have hfz25_0 := blk_frozen BK125.out 0
                have hfz25_1 := blk_frozen BK125.out 1
                have hfz25_2 := blk_frozen BK125.out 2
                have p126 : 0 ≤ ((ji21) : Int) := of_decide_eq_true (by first | (with_reducible assumption) | assumption)
                have q126 : (ji21) < (l0.length : Int) := of_decide_eq_true (by first | (with_reducible assumption) | assumption)
                obtain ⟨ad126, e126, hx126_0, hx126_1, hx126_2⟩ := at_T35 HR0.out (ji21) p126 q126
                obtain rfl : ad124 = ad126 := (by injection e126)
                replace hx126_0 := (HB.out.cell (World.block_lt_of_cell? w _ hx126_0)).trans hx126_0
                replace hx126_1 := (HB.out.cell (World.block_lt_of_cell? w _ hx126_1)).trans hx126_1
                replace hx126_2 := (HB.out.cell (World.block_lt_of_cell? w _ hx126_2)).trans hx126_2
                replace p126 := eq_true p126
                replace q126 := eq_true q126
                go_wp2
                repeat (go_quiet (fail); try go_wp2)
                go_ret2
                exact ⟨by first | rfl | (simp [errW_none, errW_some] <;> rfl) | (simp only [← hji21]; first | rfl | (simp [errW_none, errW_some] <;> rfl)) | (simp [*, errW_none, errW_some] <;> rfl), by repeat (first | (with_reducible first | exact HB.out | apply below_alloc | apply pw_below_drewN | apply below_drew1 | refine below_set ?_ GE125.out) | exact HB.out)⟩
               ·rw [if_neg c24] at H
                have c24b0 : decide (((rd_T35 l0 x10_1).f0) ≤ ((rd_T35 l0 (ji21)).f1)) = false := decide_eq_false c24
                clear c24
                have H' := Aside0.mk H
                clear H
                have hcz26_0 : wc.cell? ⟨gb125, 0, none⟩ = some (.int .i64 ((rd_T35 l0 x10_1).f0)) := (blk_cell BK125.out 0).trans rfl
                have hcz26_1 : wc.cell? ⟨gb125, 1, none⟩ = some (.int .i64 ((rd_T35 l0 x10_1).f1)) := (blk_cell BK125.out 1).trans rfl
                have hcz26_2 : wc.cell? ⟨gb125, 2, none⟩ = some (.int .i64 ((rd_T35 l0 x10_1).f2)) := (blk_cell BK125.out 2).trans rfl
                have hfz26_0 := blk_frozen BK125.out 0
                have hfz26_1 := blk_frozen BK125.out 1
                have hfz26_2 := blk_frozen BK125.out 2
                have p126 : 0 ≤ ((ji21) : Int) := of_decide_eq_true (by first | (with_reducible assumption) | assumption)
                have q126 : (ji21) < (l0.length : Int) := of_decide_eq_true (by first | (with_reducible assumption) | assumption)
                obtain ⟨ad126, e126, hx126_0, hx126_1, hx126_2⟩ := at_T35 HR0.out (ji21) p126 q126
                obtain rfl : ad124 = ad126 := (by injection e126)
                replace hx126_0 := (HB.out.cell (World.block_lt_of_cell? w _ hx126_0)).trans hx126_0
                replace hx126_1 := (HB.out.cell (World.block_lt_of_cell? w _ hx126_1)).trans hx126_1
                replace hx126_2 := (HB.out.cell (World.block_lt_of_cell? w _ hx126_2)).trans hx126_2
                replace p126 := eq_true p126
                replace q126 := eq_true q126
                go_wp2
                repeat (go_quiet (fail); try go_wp2)
                go_roundg kj14
                case measure => have := HK1.out; have := HJ5.out; have := HJ14.out; omega
                case rel => exact ⟨(wrap64 (x10_1 + 1)), (by first | rfl | (simp; done) | (simp [*]; done)), H', ⟨by have := HK1.out; have := HJ5.out; have := HJ14.out; omega⟩, ⟨by repeat (first | (with_reducible first | exact HB.out | apply below_alloc | apply pw_below_drewN | apply below_drew1 | refine below_set ?_ GE125.out) | exact HB.out)⟩⟩
              ·rw [if_neg c23] at H
               exact absurd H (by simp)
             ·rw [if_neg c22] at H
              exact absurd H (by simp)
            ·rw [if_neg c20] at H
             have c20b0 : decide (0 < x10_1) = false := decide_eq_false c20
             clear c20
             have H' := Aside0.mk H
             clear H
             go_wp2
             repeat (go_quiet (fail); try go_wp2)
             go_roundg kj14
             case measure => have := HK1.out; have := HJ5.out; have := HJ14.out; omega
             case rel => exact ⟨(wrap64 (x10_1 + 1)), (by first | rfl | (simp; done) | (simp [*]; done)), H', ⟨by have := HK1.out; have := HJ5.out; have := HJ14.out; omega⟩, ⟨by repeat (first | (with_reducible first | exact HB.out | apply below_alloc | apply pw_below_drewN | apply below_drew1 | refine below_set ?_ GE125.out) | exact HB.out)⟩⟩
     ·rw [if_neg c5] at H
      exact absurd H (by simp)
    ·rw [if_neg c4] at H
     exact absurd H (by simp)
   ·rw [if_neg c3] at H
    have c3b0 : decide (x10_1 < (l0.length : Int)) = false := decide_eq_false c3
    clear c3
    by_cases c27 : a1 < 0
    ·rw [if_pos c27] at H
     have c27b0 : decide (a1 < 0) = true := decide_eq_true c27
     clear c27
     simp only [Option.some.injEq, Prod.mk.injEq] at H
     obtain ⟨rfl, rfl⟩ := H
     go_wp2
     repeat (go_quiet (fail); try go_wp2)
     go_ret2
     exact ⟨by first | rfl | (simp [errW_none, errW_some] <;> rfl) | (simp [*, errW_none, errW_some] <;> rfl), by repeat (first | (with_reducible first | exact HB.out | apply below_alloc | apply pw_below_drewN | apply below_drew1) | exact HB.out)⟩
    ·rw [if_neg c27] at H
     have c27b0 : decide (a1 < 0) = false := decide_eq_false c27
     clear c27
     by_cases c28 : a1 > 65535
     ·rw [if_pos c28] at H
      have c28b0 : decide (65535 < a1) = true := decide_eq_true c28
      clear c28
      simp only [Option.some.injEq, Prod.mk.injEq] at H
      obtain ⟨rfl, rfl⟩ := H
      go_wp2
      repeat (go_quiet (fail); try go_wp2)
      go_ret2
      exact ⟨by first | rfl | (simp [errW_none, errW_some] <;> rfl) | (simp [*, errW_none, errW_some] <;> rfl), by repeat (first | (with_reducible first | exact HB.out | apply below_alloc | apply pw_below_drewN | apply below_drew1) | exact HB.out)⟩
     ·rw [if_neg c28] at H
      have c28b0 : decide (65535 < a1) = false := decide_eq_false c28
      clear c28
      simp only [Option.some.injEq, Prod.mk.injEq] at H
      obtain ⟨rfl, rfl⟩ := H
      go_wp2
      repeat (go_quiet (fail); try go_wp2)
      go_ret2
      exact ⟨by first | rfl | (simp [errW_none, errW_some] <;> rfl) | (simp [*, errW_none, errW_some] <;> rfl), by repeat (first | (with_reducible first | exact HB.out | apply below_alloc | apply pw_below_drewN | apply below_drew1) | exact HB.out)⟩

end Go.Proofs.Ytiaodapgankjnaa.Q
