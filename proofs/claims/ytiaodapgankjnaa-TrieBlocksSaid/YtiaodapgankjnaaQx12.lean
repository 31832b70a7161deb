-- Written by wip/tools/pr.py of this session over the kit's print (widened); the words are the kit's print's own. Not trusted: Lean checks it.
import Derived.Test.YtiaodapgankjnaaQx0
namespace Go.Proofs.Ytiaodapgankjnaa.Q
open Go.RowKit Go.Proofs.YtiaodapgankjnaaW.PrintWords Go.Proofs.YtiaodapgankjnaaW.PrintLast Go.Proofs.YtiaodapgankjnaaW.PrintMore
attribute [local go_sem] max2_int min2_int max_two min_two max_three min_three max_four min_four   -- for this text's walks alone
set_option linter.unusedVariables false
set_option linter.unusedSimpArgs false

/-! ### endonymref4_Block: function 25 -/
mutual
def endonymref4_Block.l0 : Nat → List (S35) → Int → Int → List Int → List Int → Int → Option (List Int)
 | 0, _, _, _, _, _, _ => none
 | k + 1, x0, x1, x2, x6, x7, x8 => if x8 < 64 then (if 0 ≤ x8 then (endonymref4_Block.l0 k x0 x1 x2 x6 (x7.set (x8 : Int).toNat (IntKind.u16.wrap (x1))) (wrap64 (x8 + 1))) else (none)) else (endonymref4_Block.l1 k x0 x2 x6 x7 0)
def endonymref4_Block.l1 : Nat → List (S35) → Int → List Int → List Int → Int → Option (List Int)
 | 0, _, _, _, _, _ => none
 | k + 1, x0, x2, x6, x7, x9 => if x9 < (x0.length : Int) then (if 0 ≤ x9 then (endonymref4_Block.l2 k x0 x2 x6 x7 x9 (mx ((rd_T35 x0 x9).f0) (wrap64 (64 * x2)))) else (none)) else (some (arrPut 64 x6 x7))
def endonymref4_Block.l2 : Nat → List (S35) → Int → List Int → List Int → Int → Int → Option (List Int)
 | 0, _, _, _, _, _, _ => none
 | k + 1, x0, x2, x6, x7, x9, x10 => if 0 ≤ x9 then (if x9 < (x0.length : Int) then (if x10 ≤ (mn ((rd_T35 x0 x9).f1) (wrap64 ((wrap64 (64 * x2)) + 63))) then (if 0 ≤ (wrap64 (x10 - (wrap64 (64 * x2)))) then (if (wrap64 (x10 - (wrap64 (64 * x2)))) < 64 then (endonymref4_Block.l2 k x0 x2 x6 (x7.set ((wrap64 (x10 - (wrap64 (64 * x2)))) : Int).toNat (IntKind.u16.wrap ((rd_T35 x0 x9).f2))) x9 (wrap64 (x10 + 1))) else (none)) else (none)) else (endonymref4_Block.l1 k x0 x2 x6 x7 (wrap64 (x9 + 1)))) else (none)) else (none)
end
def endonymref4_Block.f (k : Nat) (l0 : List (S35)) (a1 : Int) (a2 : Int) : Option (List Int) := endonymref4_Block.l0 k l0 a1 a2 (List.replicate 64 0) (List.replicate 64 0) 0
theorem endonymref4_Block.mono_l : ∀ k, (∀ y0 y1 y2 y3 y4 y5, LeO (endonymref4_Block.l0 k y0 y1 y2 y3 y4 y5) (endonymref4_Block.l0 (k + 1) y0 y1 y2 y3 y4 y5)) ∧ (∀ y0 y1 y2 y3 y4, LeO (endonymref4_Block.l1 k y0 y1 y2 y3 y4) (endonymref4_Block.l1 (k + 1) y0 y1 y2 y3 y4)) ∧ (∀ y0 y1 y2 y3 y4 y5, LeO (endonymref4_Block.l2 k y0 y1 y2 y3 y4 y5) (endonymref4_Block.l2 (k + 1) y0 y1 y2 y3 y4 y5))
 | 0 => ⟨fun _ _ _ _ _ _ r h => by simp [endonymref4_Block.l0] at h, fun _ _ _ _ _ r h => by simp [endonymref4_Block.l1] at h, fun _ _ _ _ _ _ r h => by simp [endonymref4_Block.l2] at h⟩
 | k + 1 => by
  obtain ⟨ih0, ih1, ih2⟩ := endonymref4_Block.mono_l k
  refine ⟨?_, ?_, ?_⟩
  ·intro y0 y1 y2 y3 y4 y5
   unfold endonymref4_Block.l0
   repeat' first
   | (with_reducible exact ih0 _ _ _ _ _ _)
   | (with_reducible exact ih1 _ _ _ _ _)
   | (with_reducible exact ih2 _ _ _ _ _ _)
   | (with_reducible exact LeO.refl _)
   | (with_reducible exact LeO.none _)
   | (with_reducible refine LeO.ite ?_ ?_)
   | (with_reducible refine LeO.bind ?_ (fun _ => ?_))
   | exact ih0 _ _ _ _ _ _
   | exact ih1 _ _ _ _ _
   | exact ih2 _ _ _ _ _ _
   | exact LeO.none _
   | refine LeO.ite ?_ ?_
   | refine LeO.bind ?_ (fun _ => ?_)
  ·intro y0 y1 y2 y3 y4
   unfold endonymref4_Block.l1
   repeat' first
   | (with_reducible exact ih0 _ _ _ _ _ _)
   | (with_reducible exact ih1 _ _ _ _ _)
   | (with_reducible exact ih2 _ _ _ _ _ _)
   | (with_reducible exact LeO.refl _)
   | (with_reducible exact LeO.none _)
   | (with_reducible refine LeO.ite ?_ ?_)
   | (with_reducible refine LeO.bind ?_ (fun _ => ?_))
   | exact ih0 _ _ _ _ _ _
   | exact ih1 _ _ _ _ _
   | exact ih2 _ _ _ _ _ _
   | exact LeO.none _
   | refine LeO.ite ?_ ?_
   | refine LeO.bind ?_ (fun _ => ?_)
  ·intro y0 y1 y2 y3 y4 y5
   unfold endonymref4_Block.l2
   repeat' first
   | (with_reducible exact ih0 _ _ _ _ _ _)
   | (with_reducible exact ih1 _ _ _ _ _)
   | (with_reducible exact ih2 _ _ _ _ _ _)
   | (with_reducible exact LeO.refl _)
   | (with_reducible exact LeO.none _)
   | (with_reducible refine LeO.ite ?_ ?_)
   | (with_reducible refine LeO.bind ?_ (fun _ => ?_))
   | exact ih0 _ _ _ _ _ _
   | exact ih1 _ _ _ _ _
   | exact ih2 _ _ _ _ _ _
   | exact LeO.none _
   | refine LeO.ite ?_ ?_
   | refine LeO.bind ?_ (fun _ => ?_)
theorem endonymref4_Block.mono : ∀ a0 a1 a2 k, LeO (endonymref4_Block.f k a0 a1 a2) (endonymref4_Block.f (k + 1) a0 a1 a2) := by
 intro a0 a1 a2 k
 obtain ⟨ih0, ih1, ih2⟩ := endonymref4_Block.mono_l k
 unfold endonymref4_Block.f
 repeat' first
   | (with_reducible exact ih0 _ _ _ _ _ _)
   | (with_reducible exact ih1 _ _ _ _ _)
   | (with_reducible exact ih2 _ _ _ _ _ _)
   | (with_reducible exact LeO.refl _)
   | (with_reducible exact LeO.none _)
   | (with_reducible refine LeO.ite ?_ ?_)
   | (with_reducible refine LeO.bind ?_ (fun _ => ?_))
   | exact ih0 _ _ _ _ _ _
   | exact ih1 _ _ _ _ _
   | exact ih2 _ _ _ _ _ _
   | exact LeO.none _
   | refine LeO.ite ?_ ?_
   | refine LeO.bind ?_ (fun _ => ?_)
set_option maxHeartbeats 8000000 in
set_option maxRecDepth 100000 in
theorem endonymref4_Block.calls (k : Nat) (A0 : Option Addr) (c0 : Nat) (l0 : List (S35)) (a1 : Int) (a2 : Int) (r : List Int) (w : World) (hr0 : Kd.C k35 w A0 l0.length l0) (hc0 : l0.length ≤ c0) (h : endonymref4_Block.f k l0 a1 a2 = some r) :
  Calls Try.prog 25 #[.slice A0 l0.length c0, .int .i64 a1, .int .i64 a2] w fun e w' => e = .returned (.agg (arrV .u16 64 r)) ∧ Below w.heap.size w w' := by
 have HR0 := Aside0.mk hr0
 have HC0 := Aside0.mk hc0
 clear hr0 hc0
 have HB := Aside0.mk (Below.refl w.heap.size w)
 have H : (endonymref4_Block.l0 k l0 a1 a2 (List.replicate 64 0) (List.replicate 64 0) 0) = some r := h
 clear h
 obtain ⟨y213, hy213⟩ : ∃ y_ : List Int, y_ = (List.replicate 64 0) := ⟨_, rfl⟩
 replace H : (endonymref4_Block.l0 k l0 a1 a2 y213 (List.replicate 64 0) 0) = some r := by first | (rw [hy213]; with_reducible exact H) | (have H2_ := (Option.bind_some _ _).symm.trans H; rw [hy213]; with_reducible exact H2_) | (have H2_ := (Option.bind_some _ _).symm.trans H; with_reducible exact H2_) | with_reducible exact H | (rw [hy213]; exact H) | exact H
 have Ny213 := Aside0.mk hy213
 clear hy213
 obtain ⟨y217, hy217⟩ : ∃ y_ : List Int, y_ = (List.replicate 64 0) := ⟨_, rfl⟩
 replace H : (endonymref4_Block.l0 k l0 a1 a2 y213 y217 0) = some r := by first | (rw [hy217]; with_reducible exact H) | (have H2_ := (Option.bind_some _ _).symm.trans H; rw [hy217]; with_reducible exact H2_) | (have H2_ := (Option.bind_some _ _).symm.trans H; with_reducible exact H2_) | with_reducible exact H | (rw [hy217]; exact H) | exact H
 have Ny217 := Aside0.mk hy217
 clear hy217
 have H' := Aside0.mk H
 clear H
 go_enter Try.func25, Try.ntmps25
 go_wp2_with (first | ((with_reducible refine gate_dst (N := 6) rfl ?_); refine arrvar_event (k := .u16) (n := 64) (t := 50) rfl (N := 6) rfl rfl (by kernel_rfl) (by decide) (Below.refl _ _) ?_; intro goa216 w4 ho5 hb hg_ gb_; have GBa216 := Aside0.mk (Nat.le_trans (below_size (by repeat (first | (with_reducible first | exact HB.out | apply below_alloc | apply pw_below_drewN | apply below_drew1) | exact HB.out))) gb_); clear hg_ gb_; (first | rw [← Ny213.out] at ho5 | (simp only [Int.reduceToNat] at ho5; rw [← Ny213.out] at ho5)); have n0_ := Aside0.mk (Kd.R_lower ho5 (below_size (by repeat (first | (with_reducible first | exact HB.out | apply below_alloc | apply pw_below_drewN | apply below_drew1) | exact HB.out)))); have n1_ := Aside0.mk (below_step (by repeat (first | (with_reducible first | exact HB.out | apply below_alloc | apply pw_below_drewN | apply below_drew1) | exact HB.out)) hb); clear HB; have HO215 := n0_; have HB := n1_; clear n0_ n1_; clear hb ho5) | ((with_reducible refine gate_dst (N := 7) rfl ?_); refine arrvar_event (k := .u16) (n := 64) (t := 50) rfl (N := 7) rfl rfl (by kernel_rfl) (by decide) (Below.refl _ _) ?_; intro goa220 w6 ho7 hb hg_ gb_; have GBa220 := Aside0.mk (Nat.le_trans (below_size (by repeat (first | (with_reducible first | exact HB.out | apply below_alloc | apply pw_below_drewN | apply below_drew1) | exact HB.out))) gb_); clear hg_ gb_; (first | rw [← Ny217.out] at ho7 | (simp only [Int.reduceToNat] at ho7; rw [← Ny217.out] at ho7)); have n0_ := Aside0.mk (Kd.R_elder' (by (with_reducible repeat (first | apply Kd.R_alloc | apply Kd.R_drewN | apply Kd.R_drew)); exact HO215.out) (Kd.R_base ho7) hb); have n1_ := Aside0.mk (Kd.R_lower (Kd.R_new' ho7 (Kd.R_lt (by (with_reducible repeat (first | apply Kd.R_alloc | apply Kd.R_drewN | apply Kd.R_drew)); exact HO215.out))) (below_size (by repeat (first | (with_reducible first | exact HB.out | apply below_alloc | apply pw_below_drewN | apply below_drew1) | exact HB.out)))); have n2_ := Aside0.mk (below_step (by repeat (first | (with_reducible first | exact HB.out | apply below_alloc | apply pw_below_drewN | apply below_drew1) | exact HB.out)) hb); clear HO215; clear HB; have HO215 := n0_; have HO219 := n1_; have HB := n2_; clear n0_ n1_ n2_; clear hb ho7))
 go_loopg [8] k (fun kq v8 w' => ∃ (x7_1 : List Int) (x8_1 : Int), v8 = .int .i64 x8_1 ∧ Aside0 (endonymref4_Block.l0 kq l0 a1 a2 y213 x7_1 x8_1 = some r) ∧ Aside0 (kq ≤ k) ∧ Aside0 (Kd.R (Kd.int .u16) 50 w' w.heap.size (fun k_ => some k_ ≠ ((.slice (some ⟨goa220, 0, none⟩) 64 64) : Value).ownBlock) (.slice (some ⟨goa216, 0, none⟩) 64 64) y213) ∧ Aside0 (Kd.R (Kd.int .u16) 50 w' w.heap.size (fun k_ => some k_ ≠ ((.slice (some ⟨goa216, 0, none⟩) 64 64) : Value).ownBlock) (.slice (some ⟨goa220, 0, none⟩) 64 64) x7_1) ∧ Aside0 (Below w.heap.size w w'))
 case atStart => exact ⟨(y217), (0), (by first | rfl | (simp; done) | (simp [*]; done)), H', ⟨Nat.le_refl _⟩, ⟨by (with_reducible repeat (first | apply Kd.R_alloc | apply Kd.R_drewN | apply Kd.R_drew)); first | exact Kd.R_mono HO215.out (fun _ hk => hk.2) | exact Kd.R_mono HO215.out (fun _ hk => (by first | exact hk.2 | exact fun e_ => hk.2 (e_.trans (own_len _ _ _ _ _))))⟩, ⟨by (with_reducible repeat (first | apply Kd.R_alloc | apply Kd.R_drewN | apply Kd.R_drew)); first | exact Kd.R_mono HO219.out (fun _ hk => hk.2) | exact Kd.R_mono HO219.out (fun _ hk => (by first | exact hk.2 | exact fun e_ => hk.2 (e_.trans (own_len _ _ _ _ _))))⟩, ⟨by repeat (first | (with_reducible first | exact HB.out | apply below_alloc | apply pw_below_drewN | apply below_drew1) | exact HB.out)⟩⟩
 case round =>
  clear H'
  (try clear c2); (try clear p2)
  obtain ⟨x7_1, x8_1, rfl, HA, HK1, HO_6, HO_7, HB⟩ := hrel
  cases gk with
  | zero => exact absurd HA.out (by simp [endonymref4_Block.l0])
  | succ k1 =>
   have H := HA.out
   clear HA
   simp only [endonymref4_Block.l0] at H
   by_cases c8 : x8_1 < 64
   ·rw [if_pos c8] at H
    have c8b0 : decide (x8_1 < 64) = true := decide_eq_true c8
    clear c8
    by_cases c9 : 0 ≤ x8_1
    ·rw [if_pos c9] at H
     have c9b0 : decide (0 ≤ x8_1) = true := decide_eq_true c9
     clear c9
     obtain ⟨y221, hy221⟩ : ∃ y_ : List Int, y_ = (x7_1.set (x8_1 : Int).toNat (IntKind.u16.wrap (a1))) := ⟨_, rfl⟩
     replace H : (endonymref4_Block.l0 k1 l0 a1 a2 y213 y221 (wrap64 (x8_1 + 1))) = some r := by first | (rw [hy221]; with_reducible exact H) | (have H2_ := (Option.bind_some _ _).symm.trans H; rw [hy221]; with_reducible exact H2_) | (have H2_ := (Option.bind_some _ _).symm.trans H; with_reducible exact H2_) | with_reducible exact H | (rw [hy221]; exact H) | exact H
     have Ny221 := Aside0.mk hy221
     clear hy221
     have H' := Aside0.mk H
     clear H
     have p10 : 0 ≤ (x8_1 : Int) := of_decide_eq_true (by first | (with_reducible assumption) | assumption)
     have q10 : (x8_1 : Int) < (64 : Int) := of_decide_eq_true (by first | (with_reducible assumption) | assumption)
     obtain ⟨hx10_0, hf10_0⟩ := Kd.R_celln 0 HO_7.out (x8_1 : Int) p10 q10
     replace p10 := eq_true p10
     replace q10 := eq_true q10
     have HP11 := Kd.R_putg HO_7.out (x8_1 : Int) (IntKind.u16.wrap (a1))
     go_wp2_with (first | ((with_reducible refine gate_store (t := 49) (p := 18) rfl ?_); refine store_event (t := 49) (p := 18) (v := ?vo_w12) (w1 := (wr.setCell ⟨goa220, (x8_1 : Int).toNat, none⟩ (.int .u16 (IntKind.u16.wrap (a1))))) ?hg ?ho ?hn ?hr ?_; (case ho => rfl); (case hg => rfl); (case hn => rfl); (case hr => first | (go_simp; done) | (go_simp; rfl)); intro w12 hw; have hg : wr.grownBy w12 (some goa220) := (by rw [hw]; exact HP11.2); have hp_ : Kd.R (Kd.int .u16) 50 w12 w.heap.size (fun k_ => some k_ ≠ (.slice (some ⟨goa216, 0, none⟩) 64 64 : Value).ownBlock) (.slice (some ⟨goa220, 0, none⟩) 64 64) y221 := (by rw [hw, Ny221.out]; exact HP11.1); clear HP11; have n0_ := Aside0.mk (Kd.R_after (v := (.slice (some ⟨goa220, 0, none⟩) 64 64)) (v1 := (.slice (some ⟨goa220, 0, none⟩) 64 64)) (ok := (fun _ => True)) (by (with_reducible repeat (first | apply Kd.R_alloc | apply Kd.R_drewN | apply Kd.R_drew)); first | exact Kd.R_mono HO_6.out (fun _ hk => ⟨trivial, hk⟩) | exact Kd.R_mono HO_6.out (fun _ hk => ⟨trivial, (by first | exact hk | exact fun e_ => hk (e_.trans (own_len _ _ _ _ _)))⟩)) hg (.inl rfl)); have n1_ := Aside0.mk (hp_); have n2_ := Aside0.mk ((by rw [hw]; exact below_set (HB.out) GBa220.out : Below w.heap.size w w12)); clear HO_6; clear HO_7; clear HB; have HO_6 := n0_; have HO_7 := n1_; have HB := n2_; clear n0_ n1_ n2_; clear hg hw hp_))
     go_roundg k1
     case measure => have := HK1.out; omega
     case rel => exact ⟨(y221), (wrap64 (x8_1 + 1)), (by first | rfl | (simp; done) | (simp [*]; done)), H', ⟨by have := HK1.out; omega⟩, ⟨by (with_reducible repeat (first | apply Kd.R_alloc | apply Kd.R_drewN | apply Kd.R_drew)); first | exact Kd.R_mono HO_6.out (fun _ hk => hk.2) | exact Kd.R_mono HO_6.out (fun _ hk => (by first | exact hk.2 | exact fun e_ => hk.2 (e_.trans (own_len _ _ _ _ _))))⟩, ⟨by (with_reducible repeat (first | apply Kd.R_alloc | apply Kd.R_drewN | apply Kd.R_drew)); first | exact HO_7.out | exact Kd.R_mono HO_7.out (fun _ hk => (by first | exact hk | exact fun e_ => hk (e_.trans (own_len _ _ _ _ _))))⟩, ⟨by repeat (first | (with_reducible first | exact HB.out | apply below_alloc | apply pw_below_drewN | apply below_drew1) | exact HB.out)⟩⟩
    ·rw [if_neg c9] at H
     exact absurd H (by simp)
   ·rw [if_neg c8] at H
    have c8b0 : decide (x8_1 < 64) = false := decide_eq_false c8
    clear c8
    have H' := Aside0.mk H
    clear H
    go_wp2
    go_loopg [9] k1 (fun kq v9 w' => ∃ (x7_2 : List Int) (x9_2 : Int), v9 = .int .i64 x9_2 ∧ Aside0 (endonymref4_Block.l1 kq l0 a2 y213 x7_2 x9_2 = some r) ∧ Aside0 (kq ≤ k1) ∧ Aside0 (Kd.R (Kd.int .u16) 50 w' w.heap.size (fun k_ => some k_ ≠ ((.slice (some ⟨goa220, 0, none⟩) 64 64) : Value).ownBlock) (.slice (some ⟨goa216, 0, none⟩) 64 64) y213) ∧ Aside0 (Kd.R (Kd.int .u16) 50 w' w.heap.size (fun k_ => some k_ ≠ ((.slice (some ⟨goa216, 0, none⟩) 64 64) : Value).ownBlock) (.slice (some ⟨goa220, 0, none⟩) 64 64) x7_2) ∧ Aside0 (Below w.heap.size w w'))
    case atStart => exact ⟨(x7_1), (0), (by first | rfl | (simp; done) | (simp [*]; done)), H', ⟨Nat.le_refl _⟩, ⟨by (with_reducible repeat (first | apply Kd.R_alloc | apply Kd.R_drewN | apply Kd.R_drew)); first | exact HO_6.out | exact Kd.R_mono HO_6.out (fun _ hk => (by first | exact hk | exact fun e_ => hk (e_.trans (own_len _ _ _ _ _))))⟩, ⟨by (with_reducible repeat (first | apply Kd.R_alloc | apply Kd.R_drewN | apply Kd.R_drew)); first | exact HO_7.out | exact Kd.R_mono HO_7.out (fun _ hk => (by first | exact hk | exact fun e_ => hk (e_.trans (own_len _ _ _ _ _))))⟩, ⟨by repeat (first | (with_reducible first | exact HB.out | apply below_alloc | apply pw_below_drewN | apply below_drew1) | exact HB.out)⟩⟩
    case round =>
     clear H'
     (try clear p1); (try clear q1); (try clear hx1); (try clear c2); (try clear p2); (try clear p6); (try clear c8); (try clear c8b0); (try clear c9); (try clear c9b0); (try clear p10); (try clear q10); (try clear hx10); (try clear hf10); (try clear hx10_0); (try clear p10); (try clear p2); (try clear q10)
     obtain ⟨x7_2, x9_2, rfl, HA, HK2, HO_6, HO_7, HB⟩ := hrel
     cases gk with
     | zero => exact absurd HA.out (by simp [endonymref4_Block.l1])
     | succ k2 =>
      have H := HA.out
      clear HA
      simp only [endonymref4_Block.l1] at H
      by_cases c13 : x9_2 < (l0.length : Int)
      ·rw [if_pos c13] at H
       have c13b0 : decide (x9_2 < (l0.length : Int)) = true := decide_eq_true c13
       clear c13
       by_cases c14 : 0 ≤ x9_2
       ·rw [if_pos c14] at H
        have c14b0 : decide (0 ≤ x9_2) = true := decide_eq_true c14
        clear c14
        obtain ⟨ji15, hji15⟩ : ∃ j_ : Int, (mx ((rd_T35 l0 x9_2).f0) (wrap64 (64 * a2))) = j_ := ⟨_, rfl⟩
        replace H : (endonymref4_Block.l2 k2 l0 a2 y213 x7_2 x9_2 ji15) = some r := by first | (rw [hji15] at H; exact H) | (simp only [hji15] at H ⊢; exact H)
        have hji15_ : (if ((rd_T35 l0 x9_2).f0) < (wrap64 (64 * a2)) then (wrap64 (64 * a2)) else ((rd_T35 l0 x9_2).f0)) = ji15 := hji15
        have H' := Aside0.mk H
        clear H
        have p223 : 0 ≤ (x9_2 : Int) := of_decide_eq_true (by first | (with_reducible assumption) | assumption)
        have q223 : x9_2 < (l0.length : Int) := of_decide_eq_true (by first | (with_reducible assumption) | assumption)
        obtain ⟨ad223, e223, hx223_0, hx223_1, hx223_2⟩ := at_T35 HR0.out x9_2 p223 q223
        cases e223
        replace hx223_0 := (HB.out.cell (World.block_lt_of_cell? w _ hx223_0)).trans hx223_0
        replace hx223_1 := (HB.out.cell (World.block_lt_of_cell? w _ hx223_1)).trans hx223_1
        replace hx223_2 := (HB.out.cell (World.block_lt_of_cell? w _ hx223_2)).trans hx223_2
        replace p223 := eq_true p223
        replace q223 := eq_true q223
        go_wp2
        go_loopg [10] k2 (fun kq v10 w' => ∃ (x7_3 : List Int) (x10_3 : Int), v10 = .int .i64 x10_3 ∧ Aside0 (endonymref4_Block.l2 kq l0 a2 y213 x7_3 x9_2 x10_3 = some r) ∧ Aside0 (kq ≤ k2) ∧ Aside0 (Kd.R (Kd.int .u16) 50 w' w.heap.size (fun k_ => some k_ ≠ ((.slice (some ⟨goa220, 0, none⟩) 64 64) : Value).ownBlock) (.slice (some ⟨goa216, 0, none⟩) 64 64) y213) ∧ Aside0 (Kd.R (Kd.int .u16) 50 w' w.heap.size (fun k_ => some k_ ≠ ((.slice (some ⟨goa216, 0, none⟩) 64 64) : Value).ownBlock) (.slice (some ⟨goa220, 0, none⟩) 64 64) x7_3) ∧ Aside0 (Below w.heap.size w w'))
        case atStart => exact ⟨(x7_2), (ji15), (by first | rfl | (simp; done) | (simp only [← hji15] <;> (first | rfl | simp)) | (simp [*]; done)), H', ⟨Nat.le_refl _⟩, ⟨by (with_reducible repeat (first | apply Kd.R_alloc | apply Kd.R_drewN | apply Kd.R_drew)); first | exact HO_6.out | exact Kd.R_mono HO_6.out (fun _ hk => (by first | exact hk | exact fun e_ => hk (e_.trans (own_len _ _ _ _ _))))⟩, ⟨by (with_reducible repeat (first | apply Kd.R_alloc | apply Kd.R_drewN | apply Kd.R_drew)); first | exact HO_7.out | exact Kd.R_mono HO_7.out (fun _ hk => (by first | exact hk | exact fun e_ => hk (e_.trans (own_len _ _ _ _ _))))⟩, ⟨by repeat (first | (with_reducible first | exact HB.out | apply below_alloc | apply pw_below_drewN | apply below_drew1) | exact HB.out)⟩⟩
        case round =>
         clear H'
         (try clear c1); (try clear p1); (try clear q1); (try clear hx1); (try clear c2); (try clear p2); (try clear q2); (try clear hx2); (try clear p6); (try clear c8); (try clear c8b0); (try clear c9); (try clear c9b0); (try clear p10); (try clear q10); (try clear hx10); (try clear hf10); (try clear c13); (try clear c13b0); (try clear c14); (try clear c14b0); (try clear hx10_0); (try clear hx223_0); (try clear hx223_1); (try clear hx223_2); (try clear p1); (try clear p10); (try clear p2); (try clear p223); (try clear p6); (try clear q1); (try clear q10); (try clear q223)
         obtain ⟨x7_3, x10_3, rfl, HA, HK3, HO_6, HO_7, HB⟩ := hrel
         cases gk with
         | zero => exact absurd HA.out (by simp [endonymref4_Block.l2])
         | succ k3 =>
          have H := HA.out
          clear HA
          simp only [endonymref4_Block.l2] at H
          by_cases c16 : 0 ≤ x9_2
          ·rw [if_pos c16] at H
           have c16b0 : decide (0 ≤ x9_2) = true := decide_eq_true c16
           clear c16
           by_cases c17 : x9_2 < (l0.length : Int)
           ·rw [if_pos c17] at H
            have c17b0 : decide (x9_2 < (l0.length : Int)) = true := decide_eq_true c17
            clear c17
            obtain ⟨ji18, hji18⟩ : ∃ j_ : Int, (mn ((rd_T35 l0 x9_2).f1) (wrap64 ((wrap64 (64 * a2)) + 63))) = j_ := ⟨_, rfl⟩
            replace H : (if x10_3 ≤ (ji18) then (if 0 ≤ (wrap64 (x10_3 - (wrap64 (64 * a2)))) then (if (wrap64 (x10_3 - (wrap64 (64 * a2)))) < 64 then (endonymref4_Block.l2 k3 l0 a2 y213 (x7_3.set ((wrap64 (x10_3 - (wrap64 (64 * a2)))) : Int).toNat (IntKind.u16.wrap ((rd_T35 l0 x9_2).f2))) x9_2 (wrap64 (x10_3 + 1))) else (none)) else (none)) else (endonymref4_Block.l1 k3 l0 a2 y213 x7_3 (wrap64 (x9_2 + 1)))) = some r := by first | (rw [hji18] at H; exact H) | (simp only [hji18] at H ⊢; exact H)
            have hji18_ : (if (wrap64 ((wrap64 (64 * a2)) + 63)) < ((rd_T35 l0 x9_2).f1) then (wrap64 ((wrap64 (64 * a2)) + 63)) else ((rd_T35 l0 x9_2).f1)) = ji18 := hji18
            by_cases c19 : x10_3 ≤ (ji18)
            ·rw [if_pos c19] at H
             have c19b0 : decide (x10_3 ≤ (ji18)) = true := decide_eq_true c19
             clear c19
             obtain ⟨ji20, hji20⟩ : ∃ j_ : Int, (wrap64 (x10_3 - (wrap64 (64 * a2)))) = j_ := ⟨_, rfl⟩
             replace H : (if 0 ≤ (ji20) then (if (ji20) < 64 then (endonymref4_Block.l2 k3 l0 a2 y213 (x7_3.set ((ji20) : Int).toNat (IntKind.u16.wrap ((rd_T35 l0 x9_2).f2))) x9_2 (wrap64 (x10_3 + 1))) else (none)) else (none)) = some r := by first | (rw [hji20] at H; exact H) | (simp only [hji20] at H ⊢; exact H)
             have hji20w : (IntKind.i64.wrap (x10_3 - (wrap64 (64 * a2)))) = ji20 := (i64_w _).trans hji20
             by_cases c21 : 0 ≤ (ji20)
             ·rw [if_pos c21] at H
              have c21b0 : decide (0 ≤ (ji20)) = true := decide_eq_true c21
              clear c21
              by_cases c22 : (ji20) < 64
              ·rw [if_pos c22] at H
               have c22b0 : decide ((ji20) < 64) = true := decide_eq_true c22
               clear c22
               obtain ⟨y226, hy226⟩ : ∃ y_ : List Int, y_ = (x7_3.set ((ji20) : Int).toNat (IntKind.u16.wrap ((rd_T35 l0 x9_2).f2))) := ⟨_, rfl⟩
               replace H : (endonymref4_Block.l2 k3 l0 a2 y213 y226 x9_2 (wrap64 (x10_3 + 1))) = some r := by first | (rw [hy226]; with_reducible exact H) | (have H2_ := (Option.bind_some _ _).symm.trans H; rw [hy226]; with_reducible exact H2_) | (have H2_ := (Option.bind_some _ _).symm.trans H; with_reducible exact H2_) | with_reducible exact H | (rw [hy226]; exact H) | exact H
               have Ny226 := Aside0.mk hy226
               clear hy226
               have H' := Aside0.mk H
               clear H
               have p224 : 0 ≤ (x9_2 : Int) := of_decide_eq_true (by first | (with_reducible assumption) | assumption)
               have q224 : x9_2 < (l0.length : Int) := of_decide_eq_true (by first | (with_reducible assumption) | assumption)
               obtain ⟨ad224, e224, hx224_0, hx224_1, hx224_2⟩ := at_T35 HR0.out x9_2 p224 q224
               obtain rfl : ad223 = ad224 := (by injection e224)
               replace hx224_0 := (HB.out.cell (World.block_lt_of_cell? w _ hx224_0)).trans hx224_0
               replace hx224_1 := (HB.out.cell (World.block_lt_of_cell? w _ hx224_1)).trans hx224_1
               replace hx224_2 := (HB.out.cell (World.block_lt_of_cell? w _ hx224_2)).trans hx224_2
               replace p224 := eq_true p224
               replace q224 := eq_true q224
               have p225 : 0 ≤ (x9_2 : Int) := of_decide_eq_true (by first | (with_reducible assumption) | assumption)
               have q225 : x9_2 < (l0.length : Int) := of_decide_eq_true (by first | (with_reducible assumption) | assumption)
               obtain ⟨ad225, e225, hx225_0, hx225_1, hx225_2⟩ := at_T35 HR0.out x9_2 p225 q225
               obtain rfl : ad223 = ad225 := (by injection e225)
               replace hx225_0 := (HB.out.cell (World.block_lt_of_cell? w _ hx225_0)).trans hx225_0
               replace hx225_1 := (HB.out.cell (World.block_lt_of_cell? w _ hx225_1)).trans hx225_1
               replace hx225_2 := (HB.out.cell (World.block_lt_of_cell? w _ hx225_2)).trans hx225_2
               replace p225 := eq_true p225
               replace q225 := eq_true q225
               have p23 : 0 ≤ ((ji20) : Int) := of_decide_eq_true (by first | (with_reducible assumption) | assumption)
               have q23 : ((ji20) : Int) < (64 : Int) := of_decide_eq_true (by first | (with_reducible assumption) | assumption)
               obtain ⟨hx23_0, hf23_0⟩ := Kd.R_celln 0 HO_7.out ((ji20) : Int) p23 q23
               replace p23 := eq_true p23
               replace q23 := eq_true q23
               have HP24 := Kd.R_putg HO_7.out ((ji20) : Int) (IntKind.u16.wrap ((rd_T35 l0 x9_2).f2))
               go_wp2_with (first | ((with_reducible refine gate_store (t := 49) (p := 56) rfl ?_); refine store_event (t := 49) (p := 56) (v := ?vo_w25) (w1 := (wr.setCell ⟨goa220, ((ji20) : Int).toNat, none⟩ (.int .u16 (IntKind.u16.wrap ((rd_T35 l0 x9_2).f2))))) ?hg ?ho ?hn ?hr ?_; (case ho => rfl); (case hg => rfl); (case hn => rfl); (case hr => first | (go_simp; done) | (go_simp; rfl)); intro w25 hw; have hg : wr.grownBy w25 (some goa220) := (by rw [hw]; exact HP24.2); have hp_ : Kd.R (Kd.int .u16) 50 w25 w.heap.size (fun k_ => some k_ ≠ (.slice (some ⟨goa216, 0, none⟩) 64 64 : Value).ownBlock) (.slice (some ⟨goa220, 0, none⟩) 64 64) y226 := (by rw [hw, Ny226.out]; exact HP24.1); clear HP24; have n0_ := Aside0.mk (Kd.R_after (v := (.slice (some ⟨goa220, 0, none⟩) 64 64)) (v1 := (.slice (some ⟨goa220, 0, none⟩) 64 64)) (ok := (fun _ => True)) (by (with_reducible repeat (first | apply Kd.R_alloc | apply Kd.R_drewN | apply Kd.R_drew)); first | exact Kd.R_mono HO_6.out (fun _ hk => ⟨trivial, hk⟩) | exact Kd.R_mono HO_6.out (fun _ hk => ⟨trivial, (by first | exact hk | exact fun e_ => hk (e_.trans (own_len _ _ _ _ _)))⟩)) hg (.inl rfl)); have n1_ := Aside0.mk (hp_); have n2_ := Aside0.mk ((by rw [hw]; exact below_set (HB.out) GBa220.out : Below w.heap.size w w25)); clear HO_6; clear HO_7; clear HB; have HO_6 := n0_; have HO_7 := n1_; have HB := n2_; clear n0_ n1_ n2_; clear hg hw hp_))
               go_roundg k3
               case measure => have := HK1.out; have := HK2.out; have := HK3.out; omega
               case rel => exact ⟨(y226), (wrap64 (x10_3 + 1)), (by first | rfl | (simp; done) | (simp [*]; done)), H', ⟨by have := HK1.out; have := HK2.out; have := HK3.out; omega⟩, ⟨by (with_reducible repeat (first | apply Kd.R_alloc | apply Kd.R_drewN | apply Kd.R_drew)); first | exact Kd.R_mono HO_6.out (fun _ hk => hk.2) | exact Kd.R_mono HO_6.out (fun _ hk => (by first | exact hk.2 | exact fun e_ => hk.2 (e_.trans (own_len _ _ _ _ _))))⟩, ⟨by (with_reducible repeat (first | apply Kd.R_alloc | apply Kd.R_drewN | apply Kd.R_drew)); first | exact HO_7.out | exact Kd.R_mono HO_7.out (fun _ hk => (by first | exact hk | exact fun e_ => hk (e_.trans (own_len _ _ _ _ _))))⟩, ⟨by repeat (first | (with_reducible first | exact HB.out | apply below_alloc | apply pw_below_drewN | apply below_drew1) | exact HB.out)⟩⟩
              ·rw [if_neg c22] at H
               exact absurd H (by simp)
             ·rw [if_neg c21] at H
              exact absurd H (by simp)
            ·rw [if_neg c19] at H
             have c19b0 : decide (x10_3 ≤ (ji18)) = false := decide_eq_false c19
             clear c19
             have H' := Aside0.mk H
             clear H
             have p224 : 0 ≤ (x9_2 : Int) := of_decide_eq_true (by first | (with_reducible assumption) | assumption)
             have q224 : x9_2 < (l0.length : Int) := of_decide_eq_true (by first | (with_reducible assumption) | assumption)
             obtain ⟨ad224, e224, hx224_0, hx224_1, hx224_2⟩ := at_T35 HR0.out x9_2 p224 q224
             obtain rfl : ad223 = ad224 := (by injection e224)
             replace hx224_0 := (HB.out.cell (World.block_lt_of_cell? w _ hx224_0)).trans hx224_0
             replace hx224_1 := (HB.out.cell (World.block_lt_of_cell? w _ hx224_1)).trans hx224_1
             replace hx224_2 := (HB.out.cell (World.block_lt_of_cell? w _ hx224_2)).trans hx224_2
             replace p224 := eq_true p224
             replace q224 := eq_true q224
             go_wp2
             go_roundg k3
             case measure => have := HK1.out; have := HK2.out; have := HK3.out; omega
             case rel => exact ⟨(x7_3), (wrap64 (x9_2 + 1)), (by first | rfl | (simp; done) | (simp [*]; done)), H', ⟨by have := HK1.out; have := HK2.out; have := HK3.out; omega⟩, ⟨by (with_reducible repeat (first | apply Kd.R_alloc | apply Kd.R_drewN | apply Kd.R_drew)); first | exact HO_6.out | exact Kd.R_mono HO_6.out (fun _ hk => (by first | exact hk | exact fun e_ => hk (e_.trans (own_len _ _ _ _ _))))⟩, ⟨by (with_reducible repeat (first | apply Kd.R_alloc | apply Kd.R_drewN | apply Kd.R_drew)); first | exact HO_7.out | exact Kd.R_mono HO_7.out (fun _ hk => (by first | exact hk | exact fun e_ => hk (e_.trans (own_len _ _ _ _ _))))⟩, ⟨by repeat (first | (with_reducible first | exact HB.out | apply below_alloc | apply pw_below_drewN | apply below_drew1) | exact HB.out)⟩⟩
           ·rw [if_neg c17] at H
            exact absurd H (by simp)
          ·rw [if_neg c16] at H
           exact absurd H (by simp)
       ·rw [if_neg c14] at H
        exact absurd H (by simp)
      ·rw [if_neg c13] at H
       have c13b0 : decide (x9_2 < (l0.length : Int)) = false := decide_eq_false c13
       clear c13
       obtain ⟨y222, hy222⟩ : ∃ y_ : List Int, y_ = (arrPut 64 y213 x7_2) := ⟨_, rfl⟩
       replace H : (some y222) = some r := by first | (rw [hy222]; with_reducible exact H) | (have H2_ := (Option.bind_some _ _).symm.trans H; rw [hy222]; with_reducible exact H2_) | (have H2_ := (Option.bind_some _ _).symm.trans H; with_reducible exact H2_) | with_reducible exact H | (rw [hy222]; exact H) | exact H
       have Ny222 := Aside0.mk hy222
       clear hy222
       obtain rfl := Option.some.inj H
       have hap26 := R_arr_at (k := .u16) (HO_7.out)
       go_wp2_with (first | ((refine wpList_load_arr rfl _ rfl rfl hap26 Try.underlying50 (by kernel_rfl) ?_); (try simp only [Act.put, List.setIfInBounds_toArray, List.set_cons_zero, List.set_cons_succ])) | ((with_reducible refine gate_store (t := 50) (p := 6) rfl ?_); refine arrput_event (k := .u16) (n := 64) (ys := x7_2) rfl rfl rfl rfl rfl (by kernel_rfl) HO_6.out ?_; intro w28 hp0_ hg hbl_; have hp_ : Kd.R (Kd.int .u16) 50 w28 w.heap.size (fun k_ => some k_ ≠ (.slice (some ⟨goa220, 0, none⟩) 64 64 : Value).ownBlock) (.slice (some ⟨goa216, 0, none⟩) 64 64) y222 := (by rw [Ny222.out]; exact hp0_); have n0_ := Aside0.mk (hp_); have n1_ := Aside0.mk (Kd.R_after (v := (.slice (some ⟨goa216, 0, none⟩) 64 64)) (v1 := (.slice (some ⟨goa216, 0, none⟩) 64 64)) (ok := (fun _ => True)) (by (with_reducible repeat (first | apply Kd.R_alloc | apply Kd.R_drewN | apply Kd.R_drew)); first | exact Kd.R_mono HO_7.out (fun _ hk => ⟨trivial, hk⟩) | exact Kd.R_mono HO_7.out (fun _ hk => ⟨trivial, (by first | exact hk | exact fun e_ => hk (e_.trans (own_len _ _ _ _ _)))⟩)) hg (.inl rfl)); have n2_ := Aside0.mk (hbl_ _ _ HB.out GBa216.out); clear HO_6; clear HO_7; clear HB; have HO_6 := n0_; have HO_7 := n1_; have HB := n2_; clear n0_ n1_ n2_; clear hg hp_ hp0_ hbl_))
       refine bodyPost_ret (results_cell_row rfl _ _ goa216 50 (arrV .u16 64 y222) (0, 0) _ rfl (by exact (R_arr_heap (k := .u16) (by (with_reducible repeat (first | apply Kd.R_alloc | apply Kd.R_drewN | apply Kd.R_drew)); first | exact HO_6.out | exact Kd.R_mono HO_6.out (fun _ hk => (by first | exact hk | exact fun e_ => hk (e_.trans (own_len _ _ _ _ _)))))).1) Try.underlying50 rfl (by kernel_rfl)) rfl ?_
       exact ⟨by first | rfl | (simp [errW_none, errW_some] <;> rfl) | (simp [*, errW_none, errW_some] <;> rfl), by repeat (first | (with_reducible first | exact HB.out | apply below_alloc | apply pw_below_drewN | apply below_drew1) | exact HB.out)⟩

end Go.Proofs.Ytiaodapgankjnaa.Q
