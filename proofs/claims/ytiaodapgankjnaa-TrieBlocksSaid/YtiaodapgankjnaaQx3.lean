-- Written by wip/tools/pr.py of this session over the kit's print (widened); the words are the kit's print's own. Not trusted: Lean checks it.
import Derived.Test.YtiaodapgankjnaaQx0
namespace Go.Proofs.Ytiaodapgankjnaa.Q
open Go.RowKit Go.Proofs.YtiaodapgankjnaaW.PrintWords Go.Proofs.YtiaodapgankjnaaW.PrintLast Go.Proofs.YtiaodapgankjnaaW.PrintMore
attribute [local go_sem] max2_int min2_int max_two min_two max_three min_three max_four min_four   -- for this text's walks alone
set_option linter.unusedVariables false
set_option linter.unusedSimpArgs false

/-! ### trie_block: function 24 -/
mutual
def trie_block.l0 : Nat → List (S35) → Int → Int → List Int → List Int → Int → Option (List Int)
 | 0, _, _, _, _, _, _ => none
 | k + 1, x0, x1, x2, x6, x7, x12 => if x12 < 64 then (if 0 ≤ x12 then (trie_block.l0 k x0 x1 x2 x6 (x7.set (x12 : Int).toNat x2) (wrap64 (x12 + 1))) else (none)) else (trie_block.l1 k x1 x6 x7 x0 (x0.length : Int) 0)
def trie_block.l1 : Nat → Int → List Int → List Int → List (S35) → Int → Int → Option (List Int)
 | 0, _, _, _, _, _, _ => none
 | k + 1, x1, x6, x7, x19, x20, x21 => if x21 < x20 then (if 0 ≤ x21 then (if x21 < (x19.length : Int) then (if ((rd_T35 x19 x21).f0) ≥ (wrap64 (x1 + 64)) then (some (arrPut 64 x6 x7)) else (trie_block.l2 k x1 x6 x7 (mx ((rd_T35 x19 x21).f0) x1) x19 x20 x21 ((rd_T35 x19 x21).f0) ((rd_T35 x19 x21).f1) ((rd_T35 x19 x21).f2))) else (none)) else (none)) else (some (arrPut 64 x6 x7))
def trie_block.l2 : Nat → Int → List Int → List Int → Int → List (S35) → Int → Int → Int → Int → Int → Option (List Int)
 | 0, _, _, _, _, _, _, _, _, _, _ => none
 | k + 1, x1, x6, x7, x11, x19, x20, x21, x116000, x116001, x116002 => if x11 ≤ (mn x116001 (wrap64 ((wrap64 (x1 + 64)) - 1))) then (if 0 ≤ (wrap64 (x11 - x1)) then (if (wrap64 (x11 - x1)) < 64 then (trie_block.l2 k x1 x6 (x7.set ((wrap64 (x11 - x1)) : Int).toNat (IntKind.u16.wrap (x116002))) (wrap64 (x11 + 1)) x19 x20 x21 x116000 x116001 x116002) else (none)) else (none)) else (trie_block.l1 k x1 x6 x7 x19 x20 (wrap64 (x21 + 1)))
end
def trie_block.f (k : Nat) (l0 : List (S35)) (a1 : Int) (a2 : Int) : Option (List Int) := trie_block.l0 k l0 a1 a2 (List.replicate 64 0) (List.replicate 64 0) 0
theorem trie_block.mono_l : ∀ k, (∀ y0 y1 y2 y3 y4 y5, LeO (trie_block.l0 k y0 y1 y2 y3 y4 y5) (trie_block.l0 (k + 1) y0 y1 y2 y3 y4 y5)) ∧ (∀ y0 y1 y2 y3 y4 y5, LeO (trie_block.l1 k y0 y1 y2 y3 y4 y5) (trie_block.l1 (k + 1) y0 y1 y2 y3 y4 y5)) ∧ (∀ y0 y1 y2 y3 y4 y5 y6 y7 y8 y9, LeO (trie_block.l2 k y0 y1 y2 y3 y4 y5 y6 y7 y8 y9) (trie_block.l2 (k + 1) y0 y1 y2 y3 y4 y5 y6 y7 y8 y9))
 | 0 => ⟨fun _ _ _ _ _ _ r h => by simp [trie_block.l0] at h, fun _ _ _ _ _ _ r h => by simp [trie_block.l1] at h, fun _ _ _ _ _ _ _ _ _ _ r h => by simp [trie_block.l2] at h⟩
 | k + 1 => by
  obtain ⟨ih0, ih1, ih2⟩ := trie_block.mono_l k
  refine ⟨?_, ?_, ?_⟩
  ·intro y0 y1 y2 y3 y4 y5
   unfold trie_block.l0
   repeat' first
   | (with_reducible exact ih0 _ _ _ _ _ _)
   | (with_reducible exact ih1 _ _ _ _ _ _)
   | (with_reducible exact ih2 _ _ _ _ _ _ _ _ _ _)
   | (with_reducible exact LeO.refl _)
   | (with_reducible exact LeO.none _)
   | (with_reducible refine LeO.ite ?_ ?_)
   | (with_reducible refine LeO.bind ?_ (fun _ => ?_))
   | exact ih0 _ _ _ _ _ _
   | exact ih1 _ _ _ _ _ _
   | exact ih2 _ _ _ _ _ _ _ _ _ _
   | exact LeO.none _
   | refine LeO.ite ?_ ?_
   | refine LeO.bind ?_ (fun _ => ?_)
  ·intro y0 y1 y2 y3 y4 y5
   unfold trie_block.l1
   repeat' first
   | (with_reducible exact ih0 _ _ _ _ _ _)
   | (with_reducible exact ih1 _ _ _ _ _ _)
   | (with_reducible exact ih2 _ _ _ _ _ _ _ _ _ _)
   | (with_reducible exact LeO.refl _)
   | (with_reducible exact LeO.none _)
   | (with_reducible refine LeO.ite ?_ ?_)
   | (with_reducible refine LeO.bind ?_ (fun _ => ?_))
   | exact ih0 _ _ _ _ _ _
   | exact ih1 _ _ _ _ _ _
   | exact ih2 _ _ _ _ _ _ _ _ _ _
   | exact LeO.none _
   | refine LeO.ite ?_ ?_
   | refine LeO.bind ?_ (fun _ => ?_)
  ·intro y0 y1 y2 y3 y4 y5 y6 y7 y8 y9
   unfold trie_block.l2
   repeat' first
   | (with_reducible exact ih0 _ _ _ _ _ _)
   | (with_reducible exact ih1 _ _ _ _ _ _)
   | (with_reducible exact ih2 _ _ _ _ _ _ _ _ _ _)
   | (with_reducible exact LeO.refl _)
   | (with_reducible exact LeO.none _)
   | (with_reducible refine LeO.ite ?_ ?_)
   | (with_reducible refine LeO.bind ?_ (fun _ => ?_))
   | exact ih0 _ _ _ _ _ _
   | exact ih1 _ _ _ _ _ _
   | exact ih2 _ _ _ _ _ _ _ _ _ _
   | exact LeO.none _
   | refine LeO.ite ?_ ?_
   | refine LeO.bind ?_ (fun _ => ?_)
theorem trie_block.mono : ∀ a0 a1 a2 k, LeO (trie_block.f k a0 a1 a2) (trie_block.f (k + 1) a0 a1 a2) := by
 intro a0 a1 a2 k
 obtain ⟨ih0, ih1, ih2⟩ := trie_block.mono_l k
 unfold trie_block.f
 repeat' first
   | (with_reducible exact ih0 _ _ _ _ _ _)
   | (with_reducible exact ih1 _ _ _ _ _ _)
   | (with_reducible exact ih2 _ _ _ _ _ _ _ _ _ _)
   | (with_reducible exact LeO.refl _)
   | (with_reducible exact LeO.none _)
   | (with_reducible refine LeO.ite ?_ ?_)
   | (with_reducible refine LeO.bind ?_ (fun _ => ?_))
   | exact ih0 _ _ _ _ _ _
   | exact ih1 _ _ _ _ _ _
   | exact ih2 _ _ _ _ _ _ _ _ _ _
   | exact LeO.none _
   | refine LeO.ite ?_ ?_
   | refine LeO.bind ?_ (fun _ => ?_)
set_option maxHeartbeats 8000000 in
set_option maxRecDepth 100000 in
theorem trie_block.calls (k : Nat) (A0 : Option Addr) (c0 : Nat) (l0 : List (S35)) (a1 : Int) (a2 : Int) (r : List Int) (w : World) (hr0 : Kd.C k35 w A0 l0.length l0) (hc0 : l0.length ≤ c0) (h : trie_block.f k l0 a1 a2 = some r) :
  Calls Try.prog 24 #[.slice A0 l0.length c0, .int .i64 a1, .int .u16 a2] w fun e w' => e = .returned (.agg (arrV .u16 64 r)) ∧ Below w.heap.size w w' := by
 have hu35 := Try.underlying35
 have HR0 := Aside0.mk hr0
 have HC0 := Aside0.mk hc0
 clear hr0 hc0
 have HB := Aside0.mk (Below.refl w.heap.size w)
 have H : (trie_block.l0 k l0 a1 a2 (List.replicate 64 0) (List.replicate 64 0) 0) = some r := h
 clear h
 obtain ⟨y104, hy104⟩ : ∃ y_ : List Int, y_ = (List.replicate 64 0) := ⟨_, rfl⟩
 replace H : (trie_block.l0 k l0 a1 a2 y104 (List.replicate 64 0) 0) = some r := by first | (rw [hy104]; with_reducible exact H) | (have H2_ := (Option.bind_some _ _).symm.trans H; rw [hy104]; with_reducible exact H2_) | (have H2_ := (Option.bind_some _ _).symm.trans H; with_reducible exact H2_) | with_reducible exact H | (rw [hy104]; exact H) | exact H
 have Ny104 := Aside0.mk hy104
 clear hy104
 obtain ⟨y108, hy108⟩ : ∃ y_ : List Int, y_ = (List.replicate 64 0) := ⟨_, rfl⟩
 replace H : (trie_block.l0 k l0 a1 a2 y104 y108 0) = some r := by first | (rw [hy108]; with_reducible exact H) | (have H2_ := (Option.bind_some _ _).symm.trans H; rw [hy108]; with_reducible exact H2_) | (have H2_ := (Option.bind_some _ _).symm.trans H; with_reducible exact H2_) | with_reducible exact H | (rw [hy108]; exact H) | exact H
 have Ny108 := Aside0.mk hy108
 clear hy108
 have H' := Aside0.mk H
 clear H
 go_enter Try.func24, Try.ntmps24
 go_wp2_with (first | ((with_reducible refine gate_dst (N := 6) rfl ?_); refine arrvar_event (k := .u16) (n := 64) (t := 50) rfl (N := 6) rfl rfl (by kernel_rfl) (by decide) (Below.refl _ _) ?_; intro goa107 w4 ho5 hb hg_ gb_; have GBa107 := Aside0.mk (Nat.le_trans (below_size (by repeat (first | (with_reducible first | exact HB.out | apply below_alloc | apply pw_below_drewN | apply below_drew1) | exact HB.out))) gb_); clear hg_ gb_; (first | rw [← Ny104.out] at ho5 | (simp only [Int.reduceToNat] at ho5; rw [← Ny104.out] at ho5)); have n0_ := Aside0.mk (Kd.R_lower ho5 (below_size (by repeat (first | (with_reducible first | exact HB.out | apply below_alloc | apply pw_below_drewN | apply below_drew1) | exact HB.out)))); have n1_ := Aside0.mk (below_step (by repeat (first | (with_reducible first | exact HB.out | apply below_alloc | apply pw_below_drewN | apply below_drew1) | exact HB.out)) hb); clear HB; have HO106 := n0_; have HB := n1_; clear n0_ n1_; clear hb ho5) | ((with_reducible refine gate_dst (N := 7) rfl ?_); refine arrvar_event (k := .u16) (n := 64) (t := 50) rfl (N := 7) rfl rfl (by kernel_rfl) (by decide) (Below.refl _ _) ?_; intro goa111 w6 ho7 hb hg_ gb_; have GBa111 := Aside0.mk (Nat.le_trans (below_size (by repeat (first | (with_reducible first | exact HB.out | apply below_alloc | apply pw_below_drewN | apply below_drew1) | exact HB.out))) gb_); clear hg_ gb_; (first | rw [← Ny108.out] at ho7 | (simp only [Int.reduceToNat] at ho7; rw [← Ny108.out] at ho7)); have n0_ := Aside0.mk (Kd.R_elder' (by (with_reducible repeat (first | apply Kd.R_alloc | apply Kd.R_drewN | apply Kd.R_drew)); exact HO106.out) (Kd.R_base ho7) hb); have n1_ := Aside0.mk (Kd.R_lower (Kd.R_new' ho7 (Kd.R_lt (by (with_reducible repeat (first | apply Kd.R_alloc | apply Kd.R_drewN | apply Kd.R_drew)); exact HO106.out))) (below_size (by repeat (first | (with_reducible first | exact HB.out | apply below_alloc | apply pw_below_drewN | apply below_drew1) | exact HB.out)))); have n2_ := Aside0.mk (below_step (by repeat (first | (with_reducible first | exact HB.out | apply below_alloc | apply pw_below_drewN | apply below_drew1) | exact HB.out)) hb); clear HO106; clear HB; have HO106 := n0_; have HO110 := n1_; have HB := n2_; clear n0_ n1_ n2_; clear hb ho7))
 go_loopg [12] k (fun kq v12 w' => ∃ (x7_1 : List Int) (x12_1 : Int), v12 = .int .i64 x12_1 ∧ Aside0 (trie_block.l0 kq l0 a1 a2 y104 x7_1 x12_1 = some r) ∧ Aside0 (kq ≤ k) ∧ Aside0 (Kd.R (Kd.int .u16) 50 w' w.heap.size (fun k_ => some k_ ≠ ((.slice (some ⟨goa111, 0, none⟩) 64 64) : Value).ownBlock) (.slice (some ⟨goa107, 0, none⟩) 64 64) y104) ∧ Aside0 (Kd.R (Kd.int .u16) 50 w' w.heap.size (fun k_ => some k_ ≠ ((.slice (some ⟨goa107, 0, none⟩) 64 64) : Value).ownBlock) (.slice (some ⟨goa111, 0, none⟩) 64 64) x7_1) ∧ Aside0 (Below w.heap.size w w'))
 case atStart => exact ⟨(y108), (0), (by first | rfl | (simp; done) | (simp [*]; done)), H', ⟨Nat.le_refl _⟩, ⟨by (with_reducible repeat (first | apply Kd.R_alloc | apply Kd.R_drewN | apply Kd.R_drew)); first | exact Kd.R_mono HO106.out (fun _ hk => hk.2) | exact Kd.R_mono HO106.out (fun _ hk => (by first | exact hk.2 | exact fun e_ => hk.2 (e_.trans (own_len _ _ _ _ _))))⟩, ⟨by (with_reducible repeat (first | apply Kd.R_alloc | apply Kd.R_drewN | apply Kd.R_drew)); first | exact Kd.R_mono HO110.out (fun _ hk => hk.2) | exact Kd.R_mono HO110.out (fun _ hk => (by first | exact hk.2 | exact fun e_ => hk.2 (e_.trans (own_len _ _ _ _ _))))⟩, ⟨by repeat (first | (with_reducible first | exact HB.out | apply below_alloc | apply pw_below_drewN | apply below_drew1) | exact HB.out)⟩⟩
 case round =>
  clear H'
  (try clear c2); (try clear p2)
  obtain ⟨x7_1, x12_1, rfl, HA, HK1, HO_6, HO_7, HB⟩ := hrel
  cases gk with
  | zero => exact absurd HA.out (by simp [trie_block.l0])
  | succ k1 =>
   have H := HA.out
   clear HA
   simp only [trie_block.l0] at H
   by_cases c8 : x12_1 < 64
   ·rw [if_pos c8] at H
    have c8b0 : decide (x12_1 < 64) = true := decide_eq_true c8
    clear c8
    by_cases c9 : 0 ≤ x12_1
    ·rw [if_pos c9] at H
     have c9b0 : decide (0 ≤ x12_1) = true := decide_eq_true c9
     clear c9
     obtain ⟨y112, hy112⟩ : ∃ y_ : List Int, y_ = (x7_1.set (x12_1 : Int).toNat a2) := ⟨_, rfl⟩
     replace H : (trie_block.l0 k1 l0 a1 a2 y104 y112 (wrap64 (x12_1 + 1))) = some r := by first | (rw [hy112]; with_reducible exact H) | (have H2_ := (Option.bind_some _ _).symm.trans H; rw [hy112]; with_reducible exact H2_) | (have H2_ := (Option.bind_some _ _).symm.trans H; with_reducible exact H2_) | with_reducible exact H | (rw [hy112]; exact H) | exact H
     have Ny112 := Aside0.mk hy112
     clear hy112
     have H' := Aside0.mk H
     clear H
     have p10 : 0 ≤ (x12_1 : Int) := of_decide_eq_true (by first | (with_reducible assumption) | assumption)
     have q10 : (x12_1 : Int) < (64 : Int) := of_decide_eq_true (by first | (with_reducible assumption) | assumption)
     obtain ⟨hx10_0, hf10_0⟩ := Kd.R_celln 0 HO_7.out (x12_1 : Int) p10 q10
     replace p10 := eq_true p10
     replace q10 := eq_true q10
     have HP11 := Kd.R_putg HO_7.out (x12_1 : Int) a2
     go_wp2_with (first | ((with_reducible refine gate_store (t := 49) (p := 17) rfl ?_); refine store_event (t := 49) (p := 17) (v := ?vo_w12) (w1 := (wr.setCell ⟨goa111, (x12_1 : Int).toNat, none⟩ (.int .u16 a2))) ?hg ?ho ?hn ?hr ?_; (case ho => rfl); (case hg => rfl); (case hn => rfl); (case hr => first | (go_simp; done) | (go_simp; rfl)); intro w12 hw; have hg : wr.grownBy w12 (some goa111) := (by rw [hw]; exact HP11.2); have hp_ : Kd.R (Kd.int .u16) 50 w12 w.heap.size (fun k_ => some k_ ≠ (.slice (some ⟨goa107, 0, none⟩) 64 64 : Value).ownBlock) (.slice (some ⟨goa111, 0, none⟩) 64 64) y112 := (by rw [hw, Ny112.out]; exact HP11.1); clear HP11; have n0_ := Aside0.mk (Kd.R_after (v := (.slice (some ⟨goa111, 0, none⟩) 64 64)) (v1 := (.slice (some ⟨goa111, 0, none⟩) 64 64)) (ok := (fun _ => True)) (by (with_reducible repeat (first | apply Kd.R_alloc | apply Kd.R_drewN | apply Kd.R_drew)); first | exact Kd.R_mono HO_6.out (fun _ hk => ⟨trivial, hk⟩) | exact Kd.R_mono HO_6.out (fun _ hk => ⟨trivial, (by first | exact hk | exact fun e_ => hk (e_.trans (own_len _ _ _ _ _)))⟩)) hg (.inl rfl)); have n1_ := Aside0.mk (hp_); have n2_ := Aside0.mk ((by rw [hw]; exact below_set (HB.out) GBa111.out : Below w.heap.size w w12)); clear HO_6; clear HO_7; clear HB; have HO_6 := n0_; have HO_7 := n1_; have HB := n2_; clear n0_ n1_ n2_; clear hg hw hp_))
     go_roundg k1
     case measure => have := HK1.out; omega
     case rel => exact ⟨(y112), (wrap64 (x12_1 + 1)), (by first | rfl | (simp; done) | (simp [*]; done)), H', ⟨by have := HK1.out; omega⟩, ⟨by (with_reducible repeat (first | apply Kd.R_alloc | apply Kd.R_drewN | apply Kd.R_drew)); first | exact Kd.R_mono HO_6.out (fun _ hk => hk.2) | exact Kd.R_mono HO_6.out (fun _ hk => (by first | exact hk.2 | exact fun e_ => hk.2 (e_.trans (own_len _ _ _ _ _))))⟩, ⟨by (with_reducible repeat (first | apply Kd.R_alloc | apply Kd.R_drewN | apply Kd.R_drew)); first | exact HO_7.out | exact Kd.R_mono HO_7.out (fun _ hk => (by first | exact hk | exact fun e_ => hk (e_.trans (own_len _ _ _ _ _))))⟩, ⟨by repeat (first | (with_reducible first | exact HB.out | apply below_alloc | apply pw_below_drewN | apply below_drew1) | exact HB.out)⟩⟩
    ·rw [if_neg c9] at H
     exact absurd H (by simp)
   ·rw [if_neg c8] at H
    have c8b0 : decide (x12_1 < 64) = false := decide_eq_false c8
    clear c8
    have H' := Aside0.mk H
    clear H
    go_wp2
    go_loopg [21] k1 (fun kq v21 w' => ∃ (x7_2 : List Int) (x21_2 : Int), v21 = .int .i64 x21_2 ∧ Aside0 (trie_block.l1 kq a1 y104 x7_2 l0 (l0.length : Int) x21_2 = some r) ∧ Aside0 (kq ≤ k1) ∧ Aside0 (Kd.R (Kd.int .u16) 50 w' w.heap.size (fun k_ => some k_ ≠ ((.slice (some ⟨goa111, 0, none⟩) 64 64) : Value).ownBlock) (.slice (some ⟨goa107, 0, none⟩) 64 64) y104) ∧ Aside0 (Kd.R (Kd.int .u16) 50 w' w.heap.size (fun k_ => some k_ ≠ ((.slice (some ⟨goa107, 0, none⟩) 64 64) : Value).ownBlock) (.slice (some ⟨goa111, 0, none⟩) 64 64) x7_2) ∧ Aside0 (Below w.heap.size w w'))
    case atStart => exact ⟨(x7_1), (0), (by first | rfl | (simp; done) | (simp [*]; done)), H', ⟨Nat.le_refl _⟩, ⟨by (with_reducible repeat (first | apply Kd.R_alloc | apply Kd.R_drewN | apply Kd.R_drew)); first | exact HO_6.out | exact Kd.R_mono HO_6.out (fun _ hk => (by first | exact hk | exact fun e_ => hk (e_.trans (own_len _ _ _ _ _))))⟩, ⟨by (with_reducible repeat (first | apply Kd.R_alloc | apply Kd.R_drewN | apply Kd.R_drew)); first | exact HO_7.out | exact Kd.R_mono HO_7.out (fun _ hk => (by first | exact hk | exact fun e_ => hk (e_.trans (own_len _ _ _ _ _))))⟩, ⟨by repeat (first | (with_reducible first | exact HB.out | apply below_alloc | apply pw_below_drewN | apply below_drew1) | exact HB.out)⟩⟩
    case round =>
     clear H'
     (try clear p1); (try clear q1); (try clear hx1); (try clear c2); (try clear p2); (try clear p6); (try clear c8); (try clear c8b0); (try clear c9); (try clear c9b0); (try clear p10); (try clear q10); (try clear hx10); (try clear hf10); (try clear hx10_0); (try clear p10); (try clear p2); (try clear q10)
     obtain ⟨x7_2, x21_2, rfl, HA, HK2, HO_6, HO_7, HB⟩ := hrel
     cases gk with
     | zero => exact absurd HA.out (by simp [trie_block.l1])
     | succ k2 =>
      have H := HA.out
      clear HA
      simp only [trie_block.l1] at H
      by_cases c13 : x21_2 < (l0.length : Int)
      ·rw [if_pos c13] at H
       have c13b0 : decide (x21_2 < (l0.length : Int)) = true := decide_eq_true c13
       clear c13
       by_cases c14 : 0 ≤ x21_2
       ·rw [if_pos c14] at H
        have c14b0 : decide (0 ≤ x21_2) = true := decide_eq_true c14
        clear c14
        by_cases c15 : x21_2 < (l0.length : Int)
        ·rw [if_pos c15] at H
         have c15b0 : decide (x21_2 < (l0.length : Int)) = true := decide_eq_true c15
         clear c15
         by_cases c16 : ((rd_T35 l0 x21_2).f0) ≥ (wrap64 (a1 + 64))
         ·rw [if_pos c16] at H
          have c16b0 : decide ((wrap64 (a1 + 64)) ≤ ((rd_T35 l0 x21_2).f0)) = true := decide_eq_true c16
          clear c16
          obtain ⟨y116, hy116⟩ : ∃ y_ : List Int, y_ = (arrPut 64 y104 x7_2) := ⟨_, rfl⟩
          replace H : (some y116) = some r := by first | (rw [hy116]; with_reducible exact H) | (have H2_ := (Option.bind_some _ _).symm.trans H; rw [hy116]; with_reducible exact H2_) | (have H2_ := (Option.bind_some _ _).symm.trans H; with_reducible exact H2_) | with_reducible exact H | (rw [hy116]; exact H) | exact H
          have Ny116 := Aside0.mk hy116
          clear hy116
          obtain rfl := Option.some.inj H
          have p114 : 0 ≤ (x21_2 : Int) := of_decide_eq_true (by first | (with_reducible assumption) | assumption)
          have q114 : x21_2 < (l0.length : Int) := of_decide_eq_true (by first | (with_reducible assumption) | assumption)
          obtain ⟨ad114, e114, hx114_0, hx114_1, hx114_2⟩ := at_T35 HR0.out x21_2 p114 q114
          cases e114
          replace hx114_0 := (HB.out.cell (World.block_lt_of_cell? w _ hx114_0)).trans hx114_0
          replace hx114_1 := (HB.out.cell (World.block_lt_of_cell? w _ hx114_1)).trans hx114_1
          replace hx114_2 := (HB.out.cell (World.block_lt_of_cell? w _ hx114_2)).trans hx114_2
          replace p114 := eq_true p114
          replace q114 := eq_true q114
          go_wp2_with (first | ((with_reducible refine gate_dst (N := 10) rfl ?_); refine box_event ?hg (N := 10) ?hd (cs := #[.int .i64 0, .int .i64 0, .int .i64 0]) (t := 35) ?hr ?_; (case hd => rfl); (case hg => rfl); (case hr => first | (go_simp; done) | (go_simp; rfl)); intro gb115 hg w17 hbox hb; have n0_ := Aside0.mk (Kd.R_below (by (with_reducible repeat (first | apply Kd.R_alloc | apply Kd.R_drewN | apply Kd.R_drew)); first | exact HO_6.out | exact Kd.R_mono HO_6.out (fun _ hk => (by first | exact hk | exact fun e_ => hk (e_.trans (own_len _ _ _ _ _))))) hb); have n1_ := Aside0.mk (Kd.R_below (by (with_reducible repeat (first | apply Kd.R_alloc | apply Kd.R_drewN | apply Kd.R_drew)); first | exact HO_7.out | exact Kd.R_mono HO_7.out (fun _ hk => (by first | exact hk | exact fun e_ => hk (e_.trans (own_len _ _ _ _ _))))) hb); have n2_ := Aside0.mk (below_step (by repeat (first | (with_reducible first | exact HB.out | apply below_alloc | apply pw_below_drewN | apply below_drew1) | exact HB.out)) hb); have n3_ := Aside0.mk (hbox); have n4_ := Aside0.mk ((by rw [hg]; exact (below_size (by repeat (first | (with_reducible first | exact HB.out | apply below_alloc | apply pw_below_drewN | apply below_drew1) | exact HB.out))) : w.heap.size ≤ gb115)); have n5_ := Aside0.mk ((by rw [hg]; exact (below_size (by repeat (first | (with_reducible first | exact HB.out | apply below_alloc | apply pw_below_drewN | apply below_drew1) | exact HB.out))) : w.heap.size ≤ gb115)); clear HO_6; clear HO_7; clear HB; have HO_6 := n0_; have HO_7 := n1_; have HB := n2_; have BK115 := n3_; have GW115 := n4_; have GE115 := n5_; clear n0_ n1_ n2_ n3_ n4_ n5_; clear hb hbox hg; have hcz18_0 : w17.cell? ⟨gb115, 0, none⟩ = some (.int .i64 0) := (blk_cell BK115.out 0).trans rfl; have hcz18_1 : w17.cell? ⟨gb115, 1, none⟩ = some (.int .i64 0) := (blk_cell BK115.out 1).trans rfl; have hcz18_2 : w17.cell? ⟨gb115, 2, none⟩ = some (.int .i64 0) := (blk_cell BK115.out 2).trans rfl; have hfz18_0 := blk_frozen BK115.out 0; have hfz18_1 := blk_frozen BK115.out 1; have hfz18_2 := blk_frozen BK115.out 2) | ((with_reducible refine gate_store (t := 35) (p := 10) rfl ?_); refine store_event (t := 35) (p := 10) (v := ?vo_w19) (w1 := (((w17.setCell ⟨gb115, 0, none⟩ (.int .i64 ((rd_T35 l0 x21_2).f0))).setCell ⟨gb115, 1, none⟩ (.int .i64 ((rd_T35 l0 x21_2).f1))).setCell ⟨gb115, 2, none⟩ (.int .i64 ((rd_T35 l0 x21_2).f2)))) ?hg ?ho ?hn ?hr ?_; (case ho => rfl); (case hg => rfl); (case hn => rfl); (case hr => first | (go_simp; done) | (go_simp; rfl)); intro w19 hw; have n0_ : Aside0 (Kd.R (Kd.int .u16) 50 w19 w.heap.size (fun k_ => some k_ ≠ (.slice (some ⟨goa111, 0, none⟩) 64 64 : Value).ownBlock) (.slice (some ⟨goa107, 0, none⟩) 64 64) y104) := ⟨(by rw [hw]; exact (by (with_reducible repeat (first | apply Kd.R_alloc | apply Kd.R_drewN | apply Kd.R_drew)); first | exact Kd.R_mono (Kd.R_far (p := ⟨gb115, 2, none⟩) (Kd.R_far (p := ⟨gb115, 1, none⟩) (Kd.R_far (p := ⟨gb115, 0, none⟩) (Kd.R_types HO_6.out BK115.out (by decide)) (fun _ hk => hk.2) (.int .i64 ((rd_T35 l0 x21_2).f0))) (fun _ hk => hk.2) (.int .i64 ((rd_T35 l0 x21_2).f1))) (fun _ hk => hk.2) (.int .i64 ((rd_T35 l0 x21_2).f2))) (fun _ hk => hk.1) | exact Kd.R_mono (Kd.R_far (p := ⟨gb115, 2, none⟩) (Kd.R_far (p := ⟨gb115, 1, none⟩) (Kd.R_far (p := ⟨gb115, 0, none⟩) (Kd.R_types HO_6.out BK115.out (by decide)) (fun _ hk => hk.2) (.int .i64 ((rd_T35 l0 x21_2).f0))) (fun _ hk => hk.2) (.int .i64 ((rd_T35 l0 x21_2).f1))) (fun _ hk => hk.2) (.int .i64 ((rd_T35 l0 x21_2).f2))) (fun _ hk => (by first | exact hk.1 | exact fun e_ => hk.1 (e_.trans (own_len _ _ _ _ _))))))⟩; have n1_ : Aside0 (Kd.R (Kd.int .u16) 50 w19 w.heap.size (fun k_ => some k_ ≠ (.slice (some ⟨goa107, 0, none⟩) 64 64 : Value).ownBlock) (.slice (some ⟨goa111, 0, none⟩) 64 64) x7_2) := ⟨(by rw [hw]; exact (by (with_reducible repeat (first | apply Kd.R_alloc | apply Kd.R_drewN | apply Kd.R_drew)); first | exact Kd.R_mono (Kd.R_far (p := ⟨gb115, 2, none⟩) (Kd.R_far (p := ⟨gb115, 1, none⟩) (Kd.R_far (p := ⟨gb115, 0, none⟩) (Kd.R_types HO_7.out BK115.out (by decide)) (fun _ hk => hk.2) (.int .i64 ((rd_T35 l0 x21_2).f0))) (fun _ hk => hk.2) (.int .i64 ((rd_T35 l0 x21_2).f1))) (fun _ hk => hk.2) (.int .i64 ((rd_T35 l0 x21_2).f2))) (fun _ hk => hk.1) | exact Kd.R_mono (Kd.R_far (p := ⟨gb115, 2, none⟩) (Kd.R_far (p := ⟨gb115, 1, none⟩) (Kd.R_far (p := ⟨gb115, 0, none⟩) (Kd.R_types HO_7.out BK115.out (by decide)) (fun _ hk => hk.2) (.int .i64 ((rd_T35 l0 x21_2).f0))) (fun _ hk => hk.2) (.int .i64 ((rd_T35 l0 x21_2).f1))) (fun _ hk => hk.2) (.int .i64 ((rd_T35 l0 x21_2).f2))) (fun _ hk => (by first | exact hk.1 | exact fun e_ => hk.1 (e_.trans (own_len _ _ _ _ _))))))⟩; have n2_ : Aside0 (w19.heap[gb115]? = some (.cells #[.int .i64 ((rd_T35 l0 x21_2).f0), .int .i64 ((rd_T35 l0 x21_2).f1), .int .i64 ((rd_T35 l0 x21_2).f2)] 35 (0, 0))) := ⟨(by rw [hw]; exact (by (with_reducible repeat (first | refine blk_drewN ?_ _ | refine blk_drew ?_ | refine blk_alloc ?_ _)); refine blk_put (cs := #[.int .i64 ((rd_T35 l0 x21_2).f0), .int .i64 ((rd_T35 l0 x21_2).f1), .int .i64 0]) ?_ 2 _ rfl; (with_reducible repeat (first | refine blk_drewN ?_ _ | refine blk_drew ?_ | refine blk_alloc ?_ _)); refine blk_put (cs := #[.int .i64 ((rd_T35 l0 x21_2).f0), .int .i64 0, .int .i64 0]) ?_ 1 _ rfl; (with_reducible repeat (first | refine blk_drewN ?_ _ | refine blk_drew ?_ | refine blk_alloc ?_ _)); refine blk_put (cs := #[.int .i64 0, .int .i64 0, .int .i64 0]) ?_ 0 _ rfl; (with_reducible repeat (first | refine blk_drewN ?_ _ | refine blk_drew ?_ | refine blk_alloc ?_ _)); exact BK115.out))⟩; have n3_ : Aside0 (Below w.heap.size w w19) := ⟨(by rw [hw]; exact (by repeat (first | (with_reducible first | exact HB.out | apply below_alloc | apply pw_below_drewN | apply below_drew1 | refine below_set ?_ GE115.out) | exact HB.out)))⟩; clear hw; clear HO_6; clear HO_7; clear BK115; clear HB; have HO_6 := n0_; have HO_7 := n1_; have BK115 := n2_; have HB := n3_; clear n0_ n1_ n2_ n3_; have hcz20_0 : w19.cell? ⟨gb115, 0, none⟩ = some (.int .i64 ((rd_T35 l0 x21_2).f0)) := (blk_cell BK115.out 0).trans rfl; have hcz20_1 : w19.cell? ⟨gb115, 1, none⟩ = some (.int .i64 ((rd_T35 l0 x21_2).f1)) := (blk_cell BK115.out 1).trans rfl; have hcz20_2 : w19.cell? ⟨gb115, 2, none⟩ = some (.int .i64 ((rd_T35 l0 x21_2).f2)) := (blk_cell BK115.out 2).trans rfl; have hfz20_0 := blk_frozen BK115.out 0; have hfz20_1 := blk_frozen BK115.out 1; have hfz20_2 := blk_frozen BK115.out 2; have hap21 := R_arr_at (k := .u16) (HO_7.out)) | ((refine wpList_load_arr rfl _ rfl rfl hap21 Try.underlying50 (by kernel_rfl) ?_); (try simp only [Act.put, List.setIfInBounds_toArray, List.set_cons_zero, List.set_cons_succ])) | ((with_reducible refine gate_store (t := 50) (p := 6) rfl ?_); refine arrput_event (k := .u16) (n := 64) (ys := x7_2) rfl rfl rfl rfl rfl (by kernel_rfl) HO_6.out ?_; intro w23 hp0_ hg hbl_; have hp_ : Kd.R (Kd.int .u16) 50 w23 w.heap.size (fun k_ => some k_ ≠ (.slice (some ⟨goa111, 0, none⟩) 64 64 : Value).ownBlock) (.slice (some ⟨goa107, 0, none⟩) 64 64) y116 := (by rw [Ny116.out]; exact hp0_); have n0_ := Aside0.mk (hp_); have n1_ := Aside0.mk (Kd.R_after (v := (.slice (some ⟨goa107, 0, none⟩) 64 64)) (v1 := (.slice (some ⟨goa107, 0, none⟩) 64 64)) (ok := (fun _ => True)) (by (with_reducible repeat (first | apply Kd.R_alloc | apply Kd.R_drewN | apply Kd.R_drew)); first | exact Kd.R_mono HO_7.out (fun _ hk => ⟨trivial, hk⟩) | exact Kd.R_mono HO_7.out (fun _ hk => ⟨trivial, (by first | exact hk | exact fun e_ => hk (e_.trans (own_len _ _ _ _ _)))⟩)) hg (.inl rfl)); have n2_ := Aside0.mk (blk_grown (g := gb115) (o := .cells #[.int .i64 ((rd_T35 l0 x21_2).f0), .int .i64 ((rd_T35 l0 x21_2).f1), .int .i64 ((rd_T35 l0 x21_2).f2)] 35 (0, 0)) (by (with_reducible repeat (first | refine blk_drewN ?_ _ | refine blk_drew ?_ | refine blk_alloc ?_ _)); exact BK115.out) hg (Kd.R_ne HO_6.out BK115.out (by decide))); have n3_ := Aside0.mk (hbl_ _ _ HB.out GBa107.out); clear HO_6; clear HO_7; clear BK115; clear HB; have HO_6 := n0_; have HO_7 := n1_; have BK115 := n2_; have HB := n3_; clear n0_ n1_ n2_ n3_; clear hg hp_ hp0_ hbl_))
          refine bodyPost_ret (results_cell_row rfl _ _ goa107 50 (arrV .u16 64 y116) (0, 0) _ rfl (by exact (R_arr_heap (k := .u16) (by (with_reducible repeat (first | apply Kd.R_alloc | apply Kd.R_drewN | apply Kd.R_drew)); first | exact HO_6.out | exact Kd.R_mono HO_6.out (fun _ hk => (by first | exact hk | exact fun e_ => hk (e_.trans (own_len _ _ _ _ _)))))).1) Try.underlying50 rfl (by kernel_rfl)) rfl ?_
          exact ⟨by first | rfl | (simp [errW_none, errW_some] <;> rfl) | (simp [*, errW_none, errW_some] <;> rfl), by repeat (first | (with_reducible first | exact HB.out | apply below_alloc | apply pw_below_drewN | apply below_drew1 | refine below_set ?_ GE115.out) | exact HB.out)⟩
         ·rw [if_neg c16] at H
          have c16b0 : decide ((wrap64 (a1 + 64)) ≤ ((rd_T35 l0 x21_2).f0)) = false := decide_eq_false c16
          clear c16
          obtain ⟨ji24, hji24⟩ : ∃ j_ : Int, (mx ((rd_T35 l0 x21_2).f0) a1) = j_ := ⟨_, rfl⟩
          replace H : (trie_block.l2 k2 a1 y104 x7_2 ji24 l0 (l0.length : Int) x21_2 ((rd_T35 l0 x21_2).f0) ((rd_T35 l0 x21_2).f1) ((rd_T35 l0 x21_2).f2)) = some r := by first | (rw [hji24] at H; exact H) | (simp only [hji24] at H ⊢; exact H)
          have hji24_ : (if ((rd_T35 l0 x21_2).f0) < a1 then a1 else ((rd_T35 l0 x21_2).f0)) = ji24 := hji24
          have H' := Aside0.mk H
          clear H
          have p114 : 0 ≤ (x21_2 : Int) := of_decide_eq_true (by first | (with_reducible assumption) | assumption)
          have q114 : x21_2 < (l0.length : Int) := of_decide_eq_true (by first | (with_reducible assumption) | assumption)
          obtain ⟨ad114, e114, hx114_0, hx114_1, hx114_2⟩ := at_T35 HR0.out x21_2 p114 q114
          cases e114
          replace hx114_0 := (HB.out.cell (World.block_lt_of_cell? w _ hx114_0)).trans hx114_0
          replace hx114_1 := (HB.out.cell (World.block_lt_of_cell? w _ hx114_1)).trans hx114_1
          replace hx114_2 := (HB.out.cell (World.block_lt_of_cell? w _ hx114_2)).trans hx114_2
          replace p114 := eq_true p114
          replace q114 := eq_true q114
          go_wp2_with (first | ((with_reducible refine gate_dst (N := 10) rfl ?_); refine box_event ?hg (N := 10) ?hd (cs := #[.int .i64 0, .int .i64 0, .int .i64 0]) (t := 35) ?hr ?_; (case hd => rfl); (case hg => rfl); (case hr => first | (go_simp; done) | (go_simp; rfl)); intro gb115 hg w25 hbox hb; have n0_ := Aside0.mk (Kd.R_below (by (with_reducible repeat (first | apply Kd.R_alloc | apply Kd.R_drewN | apply Kd.R_drew)); first | exact HO_6.out | exact Kd.R_mono HO_6.out (fun _ hk => (by first | exact hk | exact fun e_ => hk (e_.trans (own_len _ _ _ _ _))))) hb); have n1_ := Aside0.mk (Kd.R_below (by (with_reducible repeat (first | apply Kd.R_alloc | apply Kd.R_drewN | apply Kd.R_drew)); first | exact HO_7.out | exact Kd.R_mono HO_7.out (fun _ hk => (by first | exact hk | exact fun e_ => hk (e_.trans (own_len _ _ _ _ _))))) hb); have n2_ := Aside0.mk (below_step (by repeat (first | (with_reducible first | exact HB.out | apply below_alloc | apply pw_below_drewN | apply below_drew1) | exact HB.out)) hb); have n3_ := Aside0.mk (hbox); have n4_ := Aside0.mk ((by rw [hg]; exact (below_size (by repeat (first | (with_reducible first | exact HB.out | apply below_alloc | apply pw_below_drewN | apply below_drew1) | exact HB.out))) : w.heap.size ≤ gb115)); have n5_ := Aside0.mk ((by rw [hg]; exact (below_size (by repeat (first | (with_reducible first | exact HB.out | apply below_alloc | apply pw_below_drewN | apply below_drew1) | exact HB.out))) : w.heap.size ≤ gb115)); clear HO_6; clear HO_7; clear HB; have HO_6 := n0_; have HO_7 := n1_; have HB := n2_; have BK115 := n3_; have GW115 := n4_; have GE115 := n5_; clear n0_ n1_ n2_ n3_ n4_ n5_; clear hb hbox hg; have hcz26_0 : w25.cell? ⟨gb115, 0, none⟩ = some (.int .i64 0) := (blk_cell BK115.out 0).trans rfl; have hcz26_1 : w25.cell? ⟨gb115, 1, none⟩ = some (.int .i64 0) := (blk_cell BK115.out 1).trans rfl; have hcz26_2 : w25.cell? ⟨gb115, 2, none⟩ = some (.int .i64 0) := (blk_cell BK115.out 2).trans rfl; have hfz26_0 := blk_frozen BK115.out 0; have hfz26_1 := blk_frozen BK115.out 1; have hfz26_2 := blk_frozen BK115.out 2))
          go_loopg [11] k2 (fun kq v11 w' => ∃ (x7_3 : List Int) (x11_3 : Int), v11 = .int .i64 x11_3 ∧ Aside0 (trie_block.l2 kq a1 y104 x7_3 x11_3 l0 (l0.length : Int) x21_2 ((rd_T35 l0 x21_2).f0) ((rd_T35 l0 x21_2).f1) ((rd_T35 l0 x21_2).f2) = some r) ∧ Aside0 (kq ≤ k2) ∧ Aside0 (Kd.R (Kd.int .u16) 50 w' w.heap.size (fun k_ => some k_ ≠ ((.slice (some ⟨goa111, 0, none⟩) 64 64) : Value).ownBlock) (.slice (some ⟨goa107, 0, none⟩) 64 64) y104) ∧ Aside0 (Kd.R (Kd.int .u16) 50 w' w.heap.size (fun k_ => some k_ ≠ ((.slice (some ⟨goa107, 0, none⟩) 64 64) : Value).ownBlock) (.slice (some ⟨goa111, 0, none⟩) 64 64) x7_3) ∧ Aside0 (w'.heap[gb115]? = some (.cells #[.int .i64 ((rd_T35 l0 x21_2).f0), .int .i64 ((rd_T35 l0 x21_2).f1), .int .i64 ((rd_T35 l0 x21_2).f2)] 35 (0, 0))) ∧ Aside0 (Below w.heap.size w w'))
          case atStart => exact ⟨(x7_2), (ji24), (by first | rfl | (simp; done) | (simp only [← hji24] <;> (first | rfl | simp)) | (simp [*]; done)), H', ⟨Nat.le_refl _⟩, ⟨by (with_reducible repeat (first | apply Kd.R_alloc | apply Kd.R_drewN | apply Kd.R_drew)); first | exact Kd.R_mono (Kd.R_far (p := ⟨gb115, 2, none⟩) (Kd.R_far (p := ⟨gb115, 1, none⟩) (Kd.R_far (p := ⟨gb115, 0, none⟩) (Kd.R_types HO_6.out BK115.out (by decide)) (fun _ hk => hk.2) (.int .i64 ((rd_T35 l0 x21_2).f0))) (fun _ hk => hk.2) (.int .i64 ((rd_T35 l0 x21_2).f1))) (fun _ hk => hk.2) (.int .i64 ((rd_T35 l0 x21_2).f2))) (fun _ hk => hk.1) | exact Kd.R_mono (Kd.R_far (p := ⟨gb115, 2, none⟩) (Kd.R_far (p := ⟨gb115, 1, none⟩) (Kd.R_far (p := ⟨gb115, 0, none⟩) (Kd.R_types HO_6.out BK115.out (by decide)) (fun _ hk => hk.2) (.int .i64 ((rd_T35 l0 x21_2).f0))) (fun _ hk => hk.2) (.int .i64 ((rd_T35 l0 x21_2).f1))) (fun _ hk => hk.2) (.int .i64 ((rd_T35 l0 x21_2).f2))) (fun _ hk => (by first | exact hk.1 | exact fun e_ => hk.1 (e_.trans (own_len _ _ _ _ _))))⟩, ⟨by (with_reducible repeat (first | apply Kd.R_alloc | apply Kd.R_drewN | apply Kd.R_drew)); first | exact Kd.R_mono (Kd.R_far (p := ⟨gb115, 2, none⟩) (Kd.R_far (p := ⟨gb115, 1, none⟩) (Kd.R_far (p := ⟨gb115, 0, none⟩) (Kd.R_types HO_7.out BK115.out (by decide)) (fun _ hk => hk.2) (.int .i64 ((rd_T35 l0 x21_2).f0))) (fun _ hk => hk.2) (.int .i64 ((rd_T35 l0 x21_2).f1))) (fun _ hk => hk.2) (.int .i64 ((rd_T35 l0 x21_2).f2))) (fun _ hk => hk.1) | exact Kd.R_mono (Kd.R_far (p := ⟨gb115, 2, none⟩) (Kd.R_far (p := ⟨gb115, 1, none⟩) (Kd.R_far (p := ⟨gb115, 0, none⟩) (Kd.R_types HO_7.out BK115.out (by decide)) (fun _ hk => hk.2) (.int .i64 ((rd_T35 l0 x21_2).f0))) (fun _ hk => hk.2) (.int .i64 ((rd_T35 l0 x21_2).f1))) (fun _ hk => hk.2) (.int .i64 ((rd_T35 l0 x21_2).f2))) (fun _ hk => (by first | exact hk.1 | exact fun e_ => hk.1 (e_.trans (own_len _ _ _ _ _))))⟩, ⟨by (with_reducible repeat (first | refine blk_drewN ?_ _ | refine blk_drew ?_ | refine blk_alloc ?_ _)); refine blk_put (cs := #[.int .i64 ((rd_T35 l0 x21_2).f0), .int .i64 ((rd_T35 l0 x21_2).f1), .int .i64 0]) ?_ 2 _ rfl; (with_reducible repeat (first | refine blk_drewN ?_ _ | refine blk_drew ?_ | refine blk_alloc ?_ _)); refine blk_put (cs := #[.int .i64 ((rd_T35 l0 x21_2).f0), .int .i64 0, .int .i64 0]) ?_ 1 _ rfl; (with_reducible repeat (first | refine blk_drewN ?_ _ | refine blk_drew ?_ | refine blk_alloc ?_ _)); refine blk_put (cs := #[.int .i64 0, .int .i64 0, .int .i64 0]) ?_ 0 _ rfl; (with_reducible repeat (first | refine blk_drewN ?_ _ | refine blk_drew ?_ | refine blk_alloc ?_ _)); exact BK115.out⟩, ⟨by repeat (first | (with_reducible first | exact HB.out | apply below_alloc | apply pw_below_drewN | apply below_drew1 | refine below_set ?_ GE115.out) | exact HB.out)⟩⟩
          case round =>
           clear H'
           (try clear c1); (try clear p1); (try clear q1); (try clear hx1); (try clear c2); (try clear p2); (try clear p6); (try clear c8); (try clear c8b0); (try clear c9); (try clear c9b0); (try clear p10); (try clear q10); (try clear hx10); (try clear hf10); (try clear p11); (try clear q11); (try clear hx11); (try clear c13); (try clear c13b0); (try clear c14); (try clear c14b0); (try clear c15); (try clear c15b0); (try clear c16); (try clear c16b0); (try clear p21); (try clear c24); (try clear hcz18_0); (try clear hcz18_1); (try clear hcz18_2); (try clear hcz20_0); (try clear hcz20_1); (try clear hcz20_2); (try clear hcz26_0); (try clear hcz26_1); (try clear hcz26_2); (try clear hfz18_0); (try clear hfz18_1); (try clear hfz18_2); (try clear hfz20_0); (try clear hfz20_1); (try clear hfz20_2); (try clear hfz26_0); (try clear hfz26_1); (try clear hfz26_2); (try clear hx10_0); (try clear hx114_0); (try clear hx114_1); (try clear hx114_2); (try clear p1); (try clear p10); (try clear p114); (try clear p2); (try clear p6); (try clear q1); (try clear q10); (try clear q114)
           obtain ⟨x7_3, x11_3, rfl, HA, HK3, HO_6, HO_7, BK115, HB⟩ := hrel
           cases gk with
           | zero => exact absurd HA.out (by simp [trie_block.l2])
           | succ k3 =>
            have H := HA.out
            clear HA
            simp only [trie_block.l2] at H
            obtain ⟨ji27, hji27⟩ : ∃ j_ : Int, (mn ((rd_T35 l0 x21_2).f1) (wrap64 ((wrap64 (a1 + 64)) - 1))) = j_ := ⟨_, rfl⟩
            replace H : (if x11_3 ≤ (ji27) then (if 0 ≤ (wrap64 (x11_3 - a1)) then (if (wrap64 (x11_3 - a1)) < 64 then (trie_block.l2 k3 a1 y104 (x7_3.set ((wrap64 (x11_3 - a1)) : Int).toNat (IntKind.u16.wrap (((rd_T35 l0 x21_2).f2)))) (wrap64 (x11_3 + 1)) l0 (l0.length : Int) x21_2 ((rd_T35 l0 x21_2).f0) ((rd_T35 l0 x21_2).f1) ((rd_T35 l0 x21_2).f2)) else (none)) else (none)) else (trie_block.l1 k3 a1 y104 x7_3 l0 (l0.length : Int) (wrap64 (x21_2 + 1)))) = some r := by first | (rw [hji27] at H; exact H) | (simp only [hji27] at H ⊢; exact H)
            have hji27_ : (if (wrap64 ((wrap64 (a1 + 64)) - 1)) < ((rd_T35 l0 x21_2).f1) then (wrap64 ((wrap64 (a1 + 64)) - 1)) else ((rd_T35 l0 x21_2).f1)) = ji27 := hji27
            by_cases c28 : x11_3 ≤ (ji27)
            ·rw [if_pos c28] at H
             have c28b0 : decide (x11_3 ≤ (ji27)) = true := decide_eq_true c28
             clear c28
             obtain ⟨ji29, hji29⟩ : ∃ j_ : Int, (wrap64 (x11_3 - a1)) = j_ := ⟨_, rfl⟩
             replace H : (if 0 ≤ (ji29) then (if (ji29) < 64 then (trie_block.l2 k3 a1 y104 (x7_3.set ((ji29) : Int).toNat (IntKind.u16.wrap (((rd_T35 l0 x21_2).f2)))) (wrap64 (x11_3 + 1)) l0 (l0.length : Int) x21_2 ((rd_T35 l0 x21_2).f0) ((rd_T35 l0 x21_2).f1) ((rd_T35 l0 x21_2).f2)) else (none)) else (none)) = some r := by first | (rw [hji29] at H; exact H) | (simp only [hji29] at H ⊢; exact H)
             have hji29w : (IntKind.i64.wrap (x11_3 - a1)) = ji29 := (i64_w _).trans hji29
             by_cases c30 : 0 ≤ (ji29)
             ·rw [if_pos c30] at H
              have c30b0 : decide (0 ≤ (ji29)) = true := decide_eq_true c30
              clear c30
              by_cases c31 : (ji29) < 64
              ·rw [if_pos c31] at H
               have c31b0 : decide ((ji29) < 64) = true := decide_eq_true c31
               clear c31
               obtain ⟨y117, hy117⟩ : ∃ y_ : List Int, y_ = (x7_3.set ((ji29) : Int).toNat (IntKind.u16.wrap (((rd_T35 l0 x21_2).f2)))) := ⟨_, rfl⟩
               replace H : (trie_block.l2 k3 a1 y104 y117 (wrap64 (x11_3 + 1)) l0 (l0.length : Int) x21_2 ((rd_T35 l0 x21_2).f0) ((rd_T35 l0 x21_2).f1) ((rd_T35 l0 x21_2).f2)) = some r := by first | (rw [hy117]; with_reducible exact H) | (have H2_ := (Option.bind_some _ _).symm.trans H; rw [hy117]; with_reducible exact H2_) | (have H2_ := (Option.bind_some _ _).symm.trans H; with_reducible exact H2_) | with_reducible exact H | (rw [hy117]; exact H) | exact H
               have Ny117 := Aside0.mk hy117
               clear hy117
               have H' := Aside0.mk H
               clear H
               have hcz33_0 : wr.cell? ⟨gb115, 0, none⟩ = some (.int .i64 ((rd_T35 l0 x21_2).f0)) := (blk_cell BK115.out 0).trans rfl
               have hcz33_1 : wr.cell? ⟨gb115, 1, none⟩ = some (.int .i64 ((rd_T35 l0 x21_2).f1)) := (blk_cell BK115.out 1).trans rfl
               have hcz33_2 : wr.cell? ⟨gb115, 2, none⟩ = some (.int .i64 ((rd_T35 l0 x21_2).f2)) := (blk_cell BK115.out 2).trans rfl
               have hfz33_0 := blk_frozen BK115.out 0
               have hfz33_1 := blk_frozen BK115.out 1
               have hfz33_2 := blk_frozen BK115.out 2
               have p32 : 0 ≤ ((ji29) : Int) := of_decide_eq_true (by first | (with_reducible assumption) | assumption)
               have q32 : ((ji29) : Int) < (64 : Int) := of_decide_eq_true (by first | (with_reducible assumption) | assumption)
               obtain ⟨hx32_0, hf32_0⟩ := Kd.R_celln 0 HO_7.out ((ji29) : Int) p32 q32
               replace p32 := eq_true p32
               replace q32 := eq_true q32
               have HP34 := Kd.R_putg HO_7.out ((ji29) : Int) (IntKind.u16.wrap (((rd_T35 l0 x21_2).f2)))
               go_wp2_with (first | ((with_reducible refine gate_store (t := 49) (p := 50) rfl ?_); refine store_event (t := 49) (p := 50) (v := ?vo_w35) (w1 := (wr.setCell ⟨goa111, ((ji29) : Int).toNat, none⟩ (.int .u16 (IntKind.u16.wrap (((rd_T35 l0 x21_2).f2)))))) ?hg ?ho ?hn ?hr ?_; (case ho => rfl); (case hg => rfl); (case hn => rfl); (case hr => first | (go_simp; done) | (go_simp; rfl)); intro w35 hw; have hg : wr.grownBy w35 (some goa111) := (by rw [hw]; exact HP34.2); have hp_ : Kd.R (Kd.int .u16) 50 w35 w.heap.size (fun k_ => some k_ ≠ (.slice (some ⟨goa107, 0, none⟩) 64 64 : Value).ownBlock) (.slice (some ⟨goa111, 0, none⟩) 64 64) y117 := (by rw [hw, Ny117.out]; exact HP34.1); clear HP34; have n0_ := Aside0.mk (Kd.R_after (v := (.slice (some ⟨goa111, 0, none⟩) 64 64)) (v1 := (.slice (some ⟨goa111, 0, none⟩) 64 64)) (ok := (fun _ => True)) (by (with_reducible repeat (first | apply Kd.R_alloc | apply Kd.R_drewN | apply Kd.R_drew)); first | exact Kd.R_mono HO_6.out (fun _ hk => ⟨trivial, hk⟩) | exact Kd.R_mono HO_6.out (fun _ hk => ⟨trivial, (by first | exact hk | exact fun e_ => hk (e_.trans (own_len _ _ _ _ _)))⟩)) hg (.inl rfl)); have n1_ := Aside0.mk (hp_); have n2_ := Aside0.mk (blk_grown (g := gb115) (o := .cells #[.int .i64 ((rd_T35 l0 x21_2).f0), .int .i64 ((rd_T35 l0 x21_2).f1), .int .i64 ((rd_T35 l0 x21_2).f2)] 35 (0, 0)) (by (with_reducible repeat (first | refine blk_drewN ?_ _ | refine blk_drew ?_ | refine blk_alloc ?_ _)); exact BK115.out) hg (Kd.R_ne HO_7.out BK115.out (by decide))); have n3_ := Aside0.mk ((by rw [hw]; exact below_set (HB.out) GBa111.out : Below w.heap.size w w35)); clear HO_6; clear HO_7; clear BK115; clear HB; have HO_6 := n0_; have HO_7 := n1_; have BK115 := n2_; have HB := n3_; clear n0_ n1_ n2_ n3_; clear hg hw hp_))
               go_roundg k3
               case measure => have := HK1.out; have := HK2.out; have := HK3.out; omega
               case rel => exact ⟨(y117), (wrap64 (x11_3 + 1)), (by first | rfl | (simp; done) | (simp [*]; done)), H', ⟨by have := HK1.out; have := HK2.out; have := HK3.out; omega⟩, ⟨by (with_reducible repeat (first | apply Kd.R_alloc | apply Kd.R_drewN | apply Kd.R_drew)); first | exact Kd.R_mono HO_6.out (fun _ hk => hk.2) | exact Kd.R_mono HO_6.out (fun _ hk => (by first | exact hk.2 | exact fun e_ => hk.2 (e_.trans (own_len _ _ _ _ _))))⟩, ⟨by (with_reducible repeat (first | apply Kd.R_alloc | apply Kd.R_drewN | apply Kd.R_drew)); first | exact HO_7.out | exact Kd.R_mono HO_7.out (fun _ hk => (by first | exact hk | exact fun e_ => hk (e_.trans (own_len _ _ _ _ _))))⟩, ⟨by (with_reducible repeat (first | refine blk_drewN ?_ _ | refine blk_drew ?_ | refine blk_alloc ?_ _)); exact BK115.out⟩, ⟨by repeat (first | (with_reducible first | exact HB.out | apply below_alloc | apply pw_below_drewN | apply below_drew1 | refine below_set ?_ GE115.out) | exact HB.out)⟩⟩
              ·rw [if_neg c31] at H
               exact absurd H (by simp)
             ·rw [if_neg c30] at H
              exact absurd H (by simp)
            ·rw [if_neg c28] at H
             have c28b0 : decide (x11_3 ≤ (ji27)) = false := decide_eq_false c28
             clear c28
             have H' := Aside0.mk H
             clear H
             have hcz36_0 : wr.cell? ⟨gb115, 0, none⟩ = some (.int .i64 ((rd_T35 l0 x21_2).f0)) := (blk_cell BK115.out 0).trans rfl
             have hcz36_1 : wr.cell? ⟨gb115, 1, none⟩ = some (.int .i64 ((rd_T35 l0 x21_2).f1)) := (blk_cell BK115.out 1).trans rfl
             have hcz36_2 : wr.cell? ⟨gb115, 2, none⟩ = some (.int .i64 ((rd_T35 l0 x21_2).f2)) := (blk_cell BK115.out 2).trans rfl
             have hfz36_0 := blk_frozen BK115.out 0
             have hfz36_1 := blk_frozen BK115.out 1
             have hfz36_2 := blk_frozen BK115.out 2
             go_wp2
             go_roundg k3
             case measure => have := HK1.out; have := HK2.out; have := HK3.out; omega
             case rel => exact ⟨(x7_3), (wrap64 (x21_2 + 1)), (by first | rfl | (simp; done) | (simp [*]; done)), H', ⟨by have := HK1.out; have := HK2.out; have := HK3.out; omega⟩, ⟨by (with_reducible repeat (first | apply Kd.R_alloc | apply Kd.R_drewN | apply Kd.R_drew)); first | exact HO_6.out | exact Kd.R_mono HO_6.out (fun _ hk => (by first | exact hk | exact fun e_ => hk (e_.trans (own_len _ _ _ _ _))))⟩, ⟨by (with_reducible repeat (first | apply Kd.R_alloc | apply Kd.R_drewN | apply Kd.R_drew)); first | exact HO_7.out | exact Kd.R_mono HO_7.out (fun _ hk => (by first | exact hk | exact fun e_ => hk (e_.trans (own_len _ _ _ _ _))))⟩, ⟨by repeat (first | (with_reducible first | exact HB.out | apply below_alloc | apply pw_below_drewN | apply below_drew1 | refine below_set ?_ GE115.out) | exact HB.out)⟩⟩
        ·rw [if_neg c15] at H
         exact absurd H (by simp)
       ·rw [if_neg c14] at H
        exact absurd H (by simp)
      ·rw [if_neg c13] at H
       have c13b0 : decide (x21_2 < (l0.length : Int)) = false := decide_eq_false c13
       clear c13
       obtain ⟨y113, hy113⟩ : ∃ y_ : List Int, y_ = (arrPut 64 y104 x7_2) := ⟨_, rfl⟩
       replace H : (some y113) = some r := by first | (rw [hy113]; with_reducible exact H) | (have H2_ := (Option.bind_some _ _).symm.trans H; rw [hy113]; with_reducible exact H2_) | (have H2_ := (Option.bind_some _ _).symm.trans H; with_reducible exact H2_) | with_reducible exact H | (rw [hy113]; exact H) | exact H
       have Ny113 := Aside0.mk hy113
       clear hy113
       obtain rfl := Option.some.inj H
       have hap37 := R_arr_at (k := .u16) (HO_7.out)
       go_wp2_with (first | ((refine wpList_load_arr rfl _ rfl rfl hap37 Try.underlying50 (by kernel_rfl) ?_); (try simp only [Act.put, List.setIfInBounds_toArray, List.set_cons_zero, List.set_cons_succ])) | ((with_reducible refine gate_store (t := 50) (p := 6) rfl ?_); refine arrput_event (k := .u16) (n := 64) (ys := x7_2) rfl rfl rfl rfl rfl (by kernel_rfl) HO_6.out ?_; intro w39 hp0_ hg hbl_; have hp_ : Kd.R (Kd.int .u16) 50 w39 w.heap.size (fun k_ => some k_ ≠ (.slice (some ⟨goa111, 0, none⟩) 64 64 : Value).ownBlock) (.slice (some ⟨goa107, 0, none⟩) 64 64) y113 := (by rw [Ny113.out]; exact hp0_); have n0_ := Aside0.mk (hp_); have n1_ := Aside0.mk (Kd.R_after (v := (.slice (some ⟨goa107, 0, none⟩) 64 64)) (v1 := (.slice (some ⟨goa107, 0, none⟩) 64 64)) (ok := (fun _ => True)) (by (with_reducible repeat (first | apply Kd.R_alloc | apply Kd.R_drewN | apply Kd.R_drew)); first | exact Kd.R_mono HO_7.out (fun _ hk => ⟨trivial, hk⟩) | exact Kd.R_mono HO_7.out (fun _ hk => ⟨trivial, (by first | exact hk | exact fun e_ => hk (e_.trans (own_len _ _ _ _ _)))⟩)) hg (.inl rfl)); have n2_ := Aside0.mk (hbl_ _ _ HB.out GBa107.out); clear HO_6; clear HO_7; clear HB; have HO_6 := n0_; have HO_7 := n1_; have HB := n2_; clear n0_ n1_ n2_; clear hg hp_ hp0_ hbl_))
       refine bodyPost_ret (results_cell_row rfl _ _ goa107 50 (arrV .u16 64 y113) (0, 0) _ rfl (by exact (R_arr_heap (k := .u16) (by (with_reducible repeat (first | apply Kd.R_alloc | apply Kd.R_drewN | apply Kd.R_drew)); first | exact HO_6.out | exact Kd.R_mono HO_6.out (fun _ hk => (by first | exact hk | exact fun e_ => hk (e_.trans (own_len _ _ _ _ _)))))).1) Try.underlying50 rfl (by kernel_rfl)) rfl ?_
       exact ⟨by first | rfl | (simp [errW_none, errW_some] <;> rfl) | (simp [*, errW_none, errW_some] <;> rfl), by repeat (first | (with_reducible first | exact HB.out | apply below_alloc | apply pw_below_drewN | apply below_drew1) | exact HB.out)⟩

end Go.Proofs.Ytiaodapgankjnaa.Q
