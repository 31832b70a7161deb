-- Written by wip/tools/pr.py of this session over the kit's print (widened); the words are the kit's print's own. Not trusted: Lean checks it.
import Derived.Test.YtgjmollnjlkjhaaQx0
import Derived.Test.YtgjmollnjlkjhaaQx1
namespace Go.Proofs.Ytgjmollnjlkjhaa.Q
open Go.RowKit Go.Proofs.YtgjmollnjlkjhaaW.PrintWords Go.Proofs.YtgjmollnjlkjhaaW.PrintLast Go.Proofs.YtgjmollnjlkjhaaW.PrintMore
attribute [local go_sem] max2_int min2_int max_two min_two max_three min_three max_four min_four   -- for this text's walks alone
set_option linter.unusedVariables false
set_option linter.unusedSimpArgs false

/-! ### wire_Uint: function 16 -/
def wire_Uint.l0 : Nat → Int → List Int → Option (List Int)
 | 0, _, _ => none
 | k + 1, x0, x3 => if x0 ≥ 128 then (if x3.length < 140737488355328 then (wire_Uint.l0 k (x0 / 128) (x3 ++ [(Go.bits .or .i64 (Go.bits .and .i64 x0 127) 128) % 256])) else (none)) else (if x3.length < 140737488355328 then (some (x3 ++ [(x0) % 256])) else (none))
def wire_Uint.f (k : Nat) (a0 : Int) : Option (List Int) := if a0 < 0 then (some ([] : List Int)) else (wire_Uint.l0 k a0 ([] : List Int))
theorem wire_Uint.mono_l : ∀ k, (∀ y0 y1, LeO (wire_Uint.l0 k y0 y1) (wire_Uint.l0 (k + 1) y0 y1))
 | 0 => fun _ _ r h => by simp [wire_Uint.l0] at h
 | k + 1 => by
  have ih0 := wire_Uint.mono_l k
  ·intro y0 y1
   unfold wire_Uint.l0
   repeat' first
   | (with_reducible exact ih0 _ _)
   | (with_reducible exact LeO.refl _)
   | (with_reducible exact LeO.none _)
   | (with_reducible refine LeO.ite ?_ ?_)
   | (with_reducible refine LeO.bind ?_ (fun _ => ?_))
   | exact ih0 _ _
   | exact LeO.none _
   | refine LeO.ite ?_ ?_
   | refine LeO.bind ?_ (fun _ => ?_)
theorem wire_Uint.mono : ∀ a0 k, LeO (wire_Uint.f k a0) (wire_Uint.f (k + 1) a0) := by
 intro a0 k
 have ih0 := wire_Uint.mono_l k
 unfold wire_Uint.f
 repeat' first
   | (with_reducible exact ih0 _ _)
   | (with_reducible exact LeO.refl _)
   | (with_reducible exact LeO.none _)
   | (with_reducible refine LeO.ite ?_ ?_)
   | (with_reducible refine LeO.bind ?_ (fun _ => ?_))
   | exact ih0 _ _
   | exact LeO.none _
   | refine LeO.ite ?_ ?_
   | refine LeO.bind ?_ (fun _ => ?_)
set_option maxHeartbeats 8000000 in
set_option maxRecDepth 100000 in
theorem wire_Uint.calls (k : Nat) (a0 : Int) (r : List Int) (w : World) (h : wire_Uint.f k a0 = some r) :
  Calls Try.prog 16 #[.int .i64 a0] w fun e w' => ∃ v0_ : Value, e = .returned (v0_) ∧ Kd.R (Kd.int .u8) 5 w' w.heap.size (fun _ => True) v0_ r ∧ Below w.heap.size w w' := by
 have HB := Aside0.mk (Below.refl w.heap.size w)
 have H : (if a0 < 0 then (some ([] : List Int)) else (wire_Uint.l0 k a0 ([] : List Int))) = some r := h
 clear h
 by_cases c2 : a0 < 0
 ·rw [if_pos c2] at H
  have c2b0 : decide (a0 < 0) = true := decide_eq_true c2
  clear c2
  obtain rfl := Option.some.inj H
  go_enter Try.func16, Try.ntmps16
  go_wp2
  go_ret
  exact ⟨_, by first | rfl | (simp [errW_none, errW_some] <;> rfl) | (simp [*, errW_none, errW_some] <;> rfl), by first | exact Kd.R_nil _ _ _ _ _ | exact Kd.N_nil _ _ _ _ _ | exact Kd.V_nil _ _ _ _ _ | exact Kd.Q_nil _ _ _ _ _ | exact Kd.S_nil _ _ _ _ _, by repeat (first | (with_reducible first | exact HB.out | apply below_alloc | apply pw_below_drewN | apply below_drew1) | exact HB.out)⟩
 ·rw [if_neg c2] at H
  have c2b0 : decide (a0 < 0) = false := decide_eq_false c2
  clear c2
  have H' := Aside0.mk H
  clear H
  go_enter Try.func16, Try.ntmps16
  go_wp2
  go_loopg [0, 3] k (fun kq v0 v3 w' => ∃ (x0_1 : Int) (x3_1 : List Int), v0 = .int .i64 x0_1 ∧ Aside0 (wire_Uint.l0 kq x0_1 x3_1 = some r) ∧ Aside0 (kq ≤ k) ∧ Aside0 (Kd.R (Kd.int .u8) 5 w' w.heap.size (fun _ => True) v3 x3_1) ∧ Aside0 (Below w.heap.size w w'))
  case atStart => exact ⟨(a0), (([] : List Int)), (by first | rfl | (simp; done) | (simp [*]; done)), H', ⟨Nat.le_refl _⟩, ⟨by first | exact Kd.R_nil _ _ _ _ _ | exact Kd.N_nil _ _ _ _ _ | exact Kd.V_nil _ _ _ _ _ | exact Kd.Q_nil _ _ _ _ _ | exact Kd.S_nil _ _ _ _ _⟩, ⟨by repeat (first | (with_reducible first | exact HB.out | apply below_alloc | apply pw_below_drewN | apply below_drew1) | exact HB.out)⟩⟩
  case round =>
   clear H'
   try clear c1
   try clear c2
   try clear c2b0
   try clear p2
   obtain ⟨x0_1, x3_1, rfl, HA, HK1, HO_3, HB⟩ := hrel
   cases gk with
   | zero => exact absurd HA.out (by simp [wire_Uint.l0])
   | succ k1 =>
    have H := HA.out
    clear HA
    simp only [wire_Uint.l0] at H
    by_cases c3 : x0_1 ≥ 128
    ·rw [if_pos c3] at H
     have c3b0 : decide (128 ≤ x0_1) = true := decide_eq_true c3
     clear c3
     by_cases c4 : x3_1.length < 140737488355328
     ·rw [if_pos c4] at H
      have LMc4 := Aside0.mk c4
      clear c4
      obtain ⟨y103, hy103⟩ : ∃ y_ : List Int, y_ = (x3_1 ++ [(Go.bits .or .i64 (Go.bits .and .i64 x0_1 127) 128) % 256]) := ⟨_, rfl⟩
      replace H : (wire_Uint.l0 k1 (x0_1 / 128) y103) = some r := by first | (rw [hy103]; with_reducible exact H) | (have H2_ := (Option.bind_some _ _).symm.trans H; rw [hy103]; with_reducible exact H2_) | (have H2_ := (Option.bind_some _ _).symm.trans H; with_reducible exact H2_) | with_reducible exact H | (rw [hy103]; exact H) | exact H
      have Ny103 := Aside0.mk hy103
      clear hy103
      have H' := Aside0.mk H
      clear H
      go_wp2_with (first | ((with_reducible refine gate_builtin (b := .append) (xs := #[.tmp 8, .tmp 13]) rfl ?_); at_builtin; refine Kd.R_append (Kd.int .u8) (w0 := w) w.heap.size rfl (.tmp 8) (.tmp 13) 22 5 (.int .u8 0) 1 rfl Try.underlying22 info5 rfl (by decide) (by omega) u3 x3_1 ((Go.bits .or .i64 (Go.bits .and .i64 x0_1 127) 128) % 256) [.int .u8 ((Go.bits .or .i64 (Go.bits .and .i64 x0_1 127) 128) % 256)] (fun _ => True) (fun _ => False) rfl rfl ?aP (fun _ hk => hk.elim) ?aF ?aO ?aB ?aS ?aL ?_; (case aP => exact rfl); (case aB => exact (by repeat (first | (with_reducible first | exact HB.out | apply below_alloc | apply pw_below_drewN | apply below_drew1) | exact HB.out))); (case aF => exact (fun _ _ => trivial)); (case aO => exact (by (with_reducible repeat (first | apply Kd.R_alloc | apply Kd.R_drewN | apply Kd.R_drew)); exact HO_3.out)); (case aS => exact (below_size (by repeat (first | (with_reducible first | exact HB.out | apply below_alloc | apply pw_below_drewN | apply below_drew1) | exact HB.out)))); (case aL => have := LMc4.out; omega); intro v104 w5 ho hb hg hat; rw [← Ny103.out] at ho; have n0_ := Aside0.mk (hb); have n1_ := Aside0.mk (ho); clear HB; clear HO_3; have HB := n0_; have HO105 := n1_; clear n0_ n1_; clear ho hb hg hat))
      go_roundg k1
      case measure => have := HK1.out; omega
      case rel => exact ⟨(x0_1 / 128), (y103), (by first | rfl | (simp; done) | (simp [*]; done)), H', ⟨by have := HK1.out; omega⟩, ⟨by (with_reducible repeat (first | apply Kd.R_alloc | apply Kd.R_drewN | apply Kd.R_drew)); exact HO105.out⟩, ⟨by repeat (first | (with_reducible first | exact HB.out | apply below_alloc | apply pw_below_drewN | apply below_drew1) | exact HB.out)⟩⟩
     ·rw [if_neg c4] at H
      exact absurd H (by simp)
    ·rw [if_neg c3] at H
     have c3b0 : decide (128 ≤ x0_1) = false := decide_eq_false c3
     clear c3
     by_cases c6 : x3_1.length < 140737488355328
     ·rw [if_pos c6] at H
      have LMc6 := Aside0.mk c6
      clear c6
      obtain ⟨y106, hy106⟩ : ∃ y_ : List Int, y_ = (x3_1 ++ [(x0_1) % 256]) := ⟨_, rfl⟩
      replace H : (some y106) = some r := by first | (rw [hy106]; with_reducible exact H) | (have H2_ := (Option.bind_some _ _).symm.trans H; rw [hy106]; with_reducible exact H2_) | (have H2_ := (Option.bind_some _ _).symm.trans H; with_reducible exact H2_) | with_reducible exact H | (rw [hy106]; exact H) | exact H
      have Ny106 := Aside0.mk hy106
      clear hy106
      obtain rfl := Option.some.inj H
      go_wp2_with (first | ((with_reducible refine gate_builtin (b := .append) (xs := #[.tmp 17, .tmp 20]) rfl ?_); at_builtin; refine Kd.R_append (Kd.int .u8) (w0 := w) w.heap.size rfl (.tmp 17) (.tmp 20) 22 5 (.int .u8 0) 1 rfl Try.underlying22 info5 rfl (by decide) (by omega) u3 x3_1 ((x0_1) % 256) [.int .u8 ((x0_1) % 256)] (fun _ => True) (fun _ => False) rfl rfl ?aP (fun _ hk => hk.elim) ?aF ?aO ?aB ?aS ?aL ?_; (case aP => exact rfl); (case aB => exact (by repeat (first | (with_reducible first | exact HB.out | apply below_alloc | apply pw_below_drewN | apply below_drew1) | exact HB.out))); (case aF => exact (fun _ _ => trivial)); (case aO => exact (by (with_reducible repeat (first | apply Kd.R_alloc | apply Kd.R_drewN | apply Kd.R_drew)); exact HO_3.out)); (case aS => exact (below_size (by repeat (first | (with_reducible first | exact HB.out | apply below_alloc | apply pw_below_drewN | apply below_drew1) | exact HB.out)))); (case aL => have := LMc6.out; omega); intro v107 w7 ho hb hg hat; rw [← Ny106.out] at ho; have n0_ := Aside0.mk (hb); have n1_ := Aside0.mk (ho); clear HB; clear HO_3; have HB := n0_; have HO108 := n1_; clear n0_ n1_; clear ho hb hg hat))
      go_ret
      exact ⟨_, by first | rfl | (simp [errW_none, errW_some] <;> rfl) | (simp [*, errW_none, errW_some] <;> rfl), by (with_reducible repeat (first | apply Kd.R_alloc | apply Kd.R_drewN | apply Kd.R_drew)); exact HO108.out, by repeat (first | (with_reducible first | exact HB.out | apply below_alloc | apply pw_below_drewN | apply below_drew1) | exact HB.out)⟩
     ·rw [if_neg c6] at H
      exact absurd H (by simp)

/-! ### wire_Sum: function 20 -/
mutual
def wire_Sum.l0 : Nat → Int → List (List Int) → Int → Int → Option (Int)
 | 0, _, _, _, _ => none
 | k + 1, x3, x9, x10, x11 => if x11 < x10 then (if 0 ≤ x11 then (if x11 < (x9.length : Int) then (wire_Sum.l1 k x3 x9 x10 x11 (rd_L1 x9 x11) ((rd_L1 x9 x11).length : Int) 0) else (none)) else (none)) else (some (Go.bits .xor .u32 4294967295 x3))
def wire_Sum.l1 : Nat → Int → List (List Int) → Int → Int → List Int → Int → Int → Option (Int)
 | 0, _, _, _, _, _, _, _ => none
 | k + 1, x3, x9, x10, x11, x15, x16, x17 => if x17 < x16 then (if 0 ≤ x17 then (if x17 < (x15.length : Int) then (wire_Sum.l2 k (Go.bits .xor .u32 x3 ((rd x15 x17) % 4294967296)) x9 x10 x11 x15 x16 x17 0) else (none)) else (none)) else (wire_Sum.l0 k x3 x9 x10 (wrap64 (x11 + 1)))
def wire_Sum.l2 : Nat → Int → List (List Int) → Int → Int → List Int → Int → Int → Int → Option (Int)
 | 0, _, _, _, _, _, _, _, _ => none
 | k + 1, x3, x9, x10, x11, x15, x16, x17, x25 => if x25 < 8 then (if (Go.bits .and .u32 x3 1) = 1 then (wire_Sum.l2 k (Go.bits .xor .u32 (x3 / 2) 2197175160) x9 x10 x11 x15 x16 x17 (wrap64 (x25 + 1))) else (wire_Sum.l2 k (x3 / 2) x9 x10 x11 x15 x16 x17 (wrap64 (x25 + 1)))) else (wire_Sum.l1 k x3 x9 x10 x11 x15 x16 (wrap64 (x17 + 1)))
end
def wire_Sum.f (k : Nat) (l0 : List (List Int)) : Option (Int) := wire_Sum.l0 k 4294967295 l0 (l0.length : Int) 0
theorem wire_Sum.mono_l : ∀ k, (∀ y0 y1 y2 y3, LeO (wire_Sum.l0 k y0 y1 y2 y3) (wire_Sum.l0 (k + 1) y0 y1 y2 y3)) ∧ (∀ y0 y1 y2 y3 y4 y5 y6, LeO (wire_Sum.l1 k y0 y1 y2 y3 y4 y5 y6) (wire_Sum.l1 (k + 1) y0 y1 y2 y3 y4 y5 y6)) ∧ (∀ y0 y1 y2 y3 y4 y5 y6 y7, LeO (wire_Sum.l2 k y0 y1 y2 y3 y4 y5 y6 y7) (wire_Sum.l2 (k + 1) y0 y1 y2 y3 y4 y5 y6 y7))
 | 0 => ⟨fun _ _ _ _ r h => by simp [wire_Sum.l0] at h, fun _ _ _ _ _ _ _ r h => by simp [wire_Sum.l1] at h, fun _ _ _ _ _ _ _ _ r h => by simp [wire_Sum.l2] at h⟩
 | k + 1 => by
  obtain ⟨ih0, ih1, ih2⟩ := wire_Sum.mono_l k
  refine ⟨?_, ?_, ?_⟩
  ·intro y0 y1 y2 y3
   unfold wire_Sum.l0
   repeat' first
   | (with_reducible exact ih0 _ _ _ _)
   | (with_reducible exact ih1 _ _ _ _ _ _ _)
   | (with_reducible exact ih2 _ _ _ _ _ _ _ _)
   | (with_reducible exact LeO.refl _)
   | (with_reducible exact LeO.none _)
   | (with_reducible refine LeO.ite ?_ ?_)
   | (with_reducible refine LeO.bind ?_ (fun _ => ?_))
   | exact ih0 _ _ _ _
   | exact ih1 _ _ _ _ _ _ _
   | exact ih2 _ _ _ _ _ _ _ _
   | exact LeO.none _
   | refine LeO.ite ?_ ?_
   | refine LeO.bind ?_ (fun _ => ?_)
  ·intro y0 y1 y2 y3 y4 y5 y6
   unfold wire_Sum.l1
   repeat' first
   | (with_reducible exact ih0 _ _ _ _)
   | (with_reducible exact ih1 _ _ _ _ _ _ _)
   | (with_reducible exact ih2 _ _ _ _ _ _ _ _)
   | (with_reducible exact LeO.refl _)
   | (with_reducible exact LeO.none _)
   | (with_reducible refine LeO.ite ?_ ?_)
   | (with_reducible refine LeO.bind ?_ (fun _ => ?_))
   | exact ih0 _ _ _ _
   | exact ih1 _ _ _ _ _ _ _
   | exact ih2 _ _ _ _ _ _ _ _
   | exact LeO.none _
   | refine LeO.ite ?_ ?_
   | refine LeO.bind ?_ (fun _ => ?_)
  ·intro y0 y1 y2 y3 y4 y5 y6 y7
   unfold wire_Sum.l2
   repeat' first
   | (with_reducible exact ih0 _ _ _ _)
   | (with_reducible exact ih1 _ _ _ _ _ _ _)
   | (with_reducible exact ih2 _ _ _ _ _ _ _ _)
   | (with_reducible exact LeO.refl _)
   | (with_reducible exact LeO.none _)
   | (with_reducible refine LeO.ite ?_ ?_)
   | (with_reducible refine LeO.bind ?_ (fun _ => ?_))
   | exact ih0 _ _ _ _
   | exact ih1 _ _ _ _ _ _ _
   | exact ih2 _ _ _ _ _ _ _ _
   | exact LeO.none _
   | refine LeO.ite ?_ ?_
   | refine LeO.bind ?_ (fun _ => ?_)
theorem wire_Sum.mono : ∀ a0 k, LeO (wire_Sum.f k a0) (wire_Sum.f (k + 1) a0) := by
 intro a0 k
 obtain ⟨ih0, ih1, ih2⟩ := wire_Sum.mono_l k
 unfold wire_Sum.f
 repeat' first
   | (with_reducible exact ih0 _ _ _ _)
   | (with_reducible exact ih1 _ _ _ _ _ _ _)
   | (with_reducible exact ih2 _ _ _ _ _ _ _ _)
   | (with_reducible exact LeO.refl _)
   | (with_reducible exact LeO.none _)
   | (with_reducible refine LeO.ite ?_ ?_)
   | (with_reducible refine LeO.bind ?_ (fun _ => ?_))
   | exact ih0 _ _ _ _
   | exact ih1 _ _ _ _ _ _ _
   | exact ih2 _ _ _ _ _ _ _ _
   | exact LeO.none _
   | refine LeO.ite ?_ ?_
   | refine LeO.bind ?_ (fun _ => ?_)
set_option maxHeartbeats 8000000 in
set_option maxRecDepth 100000 in
theorem wire_Sum.calls (k : Nat) (A0 : Option Addr) (c0 : Nat) (l0 : List (List Int)) (r : Int) (w : World) (hr0 : Kd.C (Kd.slice 5 (Kd.int .u8)) w A0 l0.length l0) (hc0 : l0.length ≤ c0) (h : wire_Sum.f k l0 = some r) :
  Calls Try.prog 20 #[.slice A0 l0.length c0] w fun e w' => e = .returned (.int .u32 r) ∧ Drawn0 w w' := by
 have HR0 := Aside0.mk hr0
 have HC0 := Aside0.mk hc0
 clear hr0 hc0
 have H : (wire_Sum.l0 k 4294967295 l0 (l0.length : Int) 0) = some r := h
 clear h
 have H' := Aside0.mk H
 clear H
 go_enter Try.func20, Try.ntmps20
 go_wp2
 go_loopg [3, 11] k (fun kq v3 v11 w' => ∃ (x3_1 : Int) (x11_1 : Int), v3 = .int .u32 x3_1 ∧ v11 = .int .i64 x11_1 ∧ Aside0 (wire_Sum.l0 kq x3_1 l0 (l0.length : Int) x11_1 = some r) ∧ Aside0 (kq ≤ k) ∧ Drawn0 w w')
 case atStart => exact ⟨(4294967295), (0), (by first | rfl | (simp; done) | (simp [*]; done)), (by first | rfl | (simp; done) | (simp [*]; done)), H', ⟨Nat.le_refl _⟩, by repeat (first | exact Drawn0.refl _ | apply Drawn0.step)⟩
 case round =>
  clear H'
  obtain ⟨x3_1, x11_1, rfl, rfl, HA, HK1, ⟨m1, rfl⟩⟩ := hrel
  cases gk with
  | zero => exact absurd HA.out (by simp [wire_Sum.l0])
  | succ k1 =>
   have H := HA.out
   clear HA
   simp only [wire_Sum.l0] at H
   by_cases c2 : x11_1 < (l0.length : Int)
   ·rw [if_pos c2] at H
    have c2b0 : decide (x11_1 < (l0.length : Int)) = true := decide_eq_true c2
    clear c2
    by_cases c3 : 0 ≤ x11_1
    ·rw [if_pos c3] at H
     have c3b0 : decide (0 ≤ x11_1) = true := decide_eq_true c3
     clear c3
     by_cases c4 : x11_1 < (l0.length : Int)
     ·rw [if_pos c4] at H
      have c4b0 : decide (x11_1 < (l0.length : Int)) = true := decide_eq_true c4
      clear c4
      have H' := Aside0.mk H
      clear H
      have p109 : 0 ≤ (x11_1 : Int) := of_decide_eq_true (by first | (with_reducible assumption) | assumption)
      have q109 : x11_1 < (l0.length : Int) := of_decide_eq_true (by first | (with_reducible assumption) | assumption)
      obtain ⟨ad109, A109_0, c109_0, e109, hx109_0, hl109_0, hi109_0⟩ := at_L1 HR0.out x11_1 p109 q109
      cases e109
      have HR109_0 := Aside0.mk hi109_0
      have HC109_0 := Aside0.mk hl109_0
      clear hi109_0 hl109_0
      replace p109 := eq_true p109
      replace q109 := eq_true q109
      go_wp2
      go_loopg [3, 17] k1 (fun kq v3 v17 w' => ∃ (x3_2 : Int) (x17_2 : Int), v3 = .int .u32 x3_2 ∧ v17 = .int .i64 x17_2 ∧ Aside0 (wire_Sum.l1 kq x3_2 l0 (l0.length : Int) x11_1 (rd_L1 l0 x11_1) ((rd_L1 l0 x11_1).length : Int) x17_2 = some r) ∧ Aside0 (kq ≤ k1) ∧ Drawn0 w w')
      case atStart => exact ⟨(x3_1), (0), (by first | rfl | (simp; done) | (simp [*]; done)), (by first | rfl | (simp; done) | (simp [*]; done)), H', ⟨Nat.le_refl _⟩, by repeat (first | exact Drawn0.refl _ | apply Drawn0.step)⟩
      case round =>
       clear H'
       try clear c1
       try clear p1
       try clear q1
       try clear hx1
       try clear c2
       try clear c2b0
       try clear p2
       try clear c3
       try clear c3b0
       try clear c4
       try clear c4b0
       try clear hx109_0
       try clear p109
       try clear q109
       obtain ⟨x3_2, x17_2, rfl, rfl, HA, HK2, ⟨m2, rfl⟩⟩ := hrel
       cases gk with
       | zero => exact absurd HA.out (by simp [wire_Sum.l1])
       | succ k2 =>
        have H := HA.out
        clear HA
        simp only [wire_Sum.l1] at H
        by_cases c5 : x17_2 < ((rd_L1 l0 x11_1).length : Int)
        ·rw [if_pos c5] at H
         have c5b0 : decide (x17_2 < ((rd_L1 l0 x11_1).length : Int)) = true := decide_eq_true c5
         clear c5
         by_cases c6 : 0 ≤ x17_2
         ·rw [if_pos c6] at H
          have c6b0 : decide (0 ≤ x17_2) = true := decide_eq_true c6
          clear c6
          by_cases c7 : x17_2 < ((rd_L1 l0 x11_1).length : Int)
          ·rw [if_pos c7] at H
           have c7b0 : decide (x17_2 < ((rd_L1 l0 x11_1).length : Int)) = true := decide_eq_true c7
           clear c7
           have H' := Aside0.mk H
           clear H
           have p110 : 0 ≤ (x17_2 : Int) := of_decide_eq_true (by first | (with_reducible assumption) | assumption)
           have q110 : x17_2 < ((rd_L1 l0 x11_1).length : Int) := of_decide_eq_true (by first | (with_reducible assumption) | assumption)
           obtain ⟨ad110, e110, hx110_0⟩ := Kd.at_int HR109_0.out x17_2 p110 q110
           cases e110
           replace p110 := eq_true p110
           replace q110 := eq_true q110
           go_wp2
           go_loopg [3, 25] k2 (fun kq v3 v25 w' => ∃ (x3_3 : Int) (x25_3 : Int), v3 = .int .u32 x3_3 ∧ v25 = .int .i64 x25_3 ∧ Aside0 (wire_Sum.l2 kq x3_3 l0 (l0.length : Int) x11_1 (rd_L1 l0 x11_1) ((rd_L1 l0 x11_1).length : Int) x17_2 x25_3 = some r) ∧ Aside0 (kq ≤ k2) ∧ Drawn0 w w')
           case atStart => exact ⟨(Go.bits .xor .u32 x3_2 ((rd (rd_L1 l0 x11_1) x17_2) % 4294967296)), (0), (by first | rfl | (simp; done) | (simp [*]; done)), (by first | rfl | (simp; done) | (simp [*]; done)), H', ⟨Nat.le_refl _⟩, by repeat (first | exact Drawn0.refl _ | apply Drawn0.step)⟩
           case round =>
            clear H'
            try clear c1
            try clear p1
            try clear q1
            try clear hx1
            try clear c2
            try clear c2b0
            try clear p2
            try clear c3
            try clear c3b0
            try clear c4
            try clear c4b0
            try clear c5
            try clear c5b0
            try clear c6
            try clear c6b0
            try clear c7
            try clear c7b0
            try clear hx109_0
            try clear hx110_0
            try clear p1
            try clear p109
            try clear p110
            try clear p2
            try clear q1
            try clear q109
            try clear q110
            obtain ⟨x3_3, x25_3, rfl, rfl, HA, HK3, ⟨m3, rfl⟩⟩ := hrel
            cases gk with
            | zero => exact absurd HA.out (by simp [wire_Sum.l2])
            | succ k3 =>
             have H := HA.out
             clear HA
             simp only [wire_Sum.l2] at H
             by_cases c8 : x25_3 < 8
             ·rw [if_pos c8] at H
              have c8b0 : decide (x25_3 < 8) = true := decide_eq_true c8
              clear c8
              by_cases c9 : (Go.bits .and .u32 x3_3 1) = 1
              ·rw [if_pos c9] at H
               have c9b0 : ((Go.bits .and .u32 x3_3 1) == 1) = true := beq_iff_eq.mpr c9
               have c9b1 : ((Go.bits .and .u32 x3_3 1) != 1) = false := bne_eq_false_iff_eq.mpr c9
               clear c9
               have H' := Aside0.mk H
               clear H
               go_wp2
               go_roundg k3
               case measure => have := HK1.out; have := HK2.out; have := HK3.out; omega
               case rel => exact ⟨(Go.bits .xor .u32 (x3_3 / 2) 2197175160), (wrap64 (x25_3 + 1)), (by first | rfl | (simp; done) | (simp [*]; done)), (by first | rfl | (simp; done) | (simp [*]; done)), H', ⟨by have := HK1.out; have := HK2.out; have := HK3.out; omega⟩, by repeat (first | exact Drawn0.refl _ | apply Drawn0.step)⟩
              ·rw [if_neg c9] at H
               have c9b0 : ((Go.bits .and .u32 x3_3 1) == 1) = false := beq_eq_false_iff_ne.mpr c9
               have c9b1 : ((Go.bits .and .u32 x3_3 1) != 1) = true := bne_iff_ne.mpr c9
               have H' := Aside0.mk H
               clear H
               go_wp2
               go_roundg k3
               case measure => have := HK1.out; have := HK2.out; have := HK3.out; omega
               case rel => exact ⟨(x3_3 / 2), (wrap64 (x25_3 + 1)), (by first | rfl | (simp; done) | (simp [*]; done)), (by first | rfl | (simp; done) | (simp [*]; done)), H', ⟨by have := HK1.out; have := HK2.out; have := HK3.out; omega⟩, by repeat (first | exact Drawn0.refl _ | apply Drawn0.step)⟩
             ·rw [if_neg c8] at H
              have c8b0 : decide (x25_3 < 8) = false := decide_eq_false c8
              clear c8
              have H' := Aside0.mk H
              clear H
              go_wp2
              go_roundg k3
              case measure => have := HK1.out; have := HK2.out; have := HK3.out; omega
              case rel => exact ⟨(x3_3), (wrap64 (x17_2 + 1)), (by first | rfl | (simp; done) | (simp [*]; done)), (by first | rfl | (simp; done) | (simp [*]; done)), H', ⟨by have := HK1.out; have := HK2.out; have := HK3.out; omega⟩, by repeat (first | exact Drawn0.refl _ | apply Drawn0.step)⟩
          ·rw [if_neg c7] at H
           exact absurd H (by simp)
         ·rw [if_neg c6] at H
          exact absurd H (by simp)
        ·rw [if_neg c5] at H
         have c5b0 : decide (x17_2 < ((rd_L1 l0 x11_1).length : Int)) = false := decide_eq_false c5
         clear c5
         have H' := Aside0.mk H
         clear H
         go_wp2
         go_roundg k2
         case measure => have := HK1.out; have := HK2.out; omega
         case rel => exact ⟨(x3_2), (wrap64 (x11_1 + 1)), (by first | rfl | (simp; done) | (simp [*]; done)), (by first | rfl | (simp; done) | (simp [*]; done)), H', ⟨by have := HK1.out; have := HK2.out; omega⟩, by repeat (first | exact Drawn0.refl _ | apply Drawn0.step)⟩
     ·rw [if_neg c4] at H
      exact absurd H (by simp)
    ·rw [if_neg c3] at H
     exact absurd H (by simp)
   ·rw [if_neg c2] at H
    have c2b0 : decide (x11_1 < (l0.length : Int)) = false := decide_eq_false c2
    clear c2
    obtain rfl := Option.some.inj H
    go_wp2
    go_ret
    exact ⟨by first | rfl | (simp; done) | (simp [*]; done), by repeat (first | exact Drawn0.refl _ | apply Drawn0.step)⟩

-- NOT PRINTED: function 33 (wire_piece)

/-! ### wire_ReadText: function 21 (by hand) -/
theorem piece_yes (A0 : Option Addr) (c0 : Nat) (l0 : List Int) (p q : Nat) (w : World) (hc0 : l0.length ≤ c0) (hm : l0.length ≤ 9223372036854775807) (h : p + q ≤ l0.length) :
    ∃ A' : Option Addr, (Calls Try.prog 33 #[.slice A0 l0.length c0, .int .i64 (p : Int), .int .i64 (q : Int)] w fun e w' => e = .returned (.tuple #[.slice A' q q, .bool true]) ∧ w = w') ∧
      ∀ W : World, (Kd.int .u8).C W A0 l0.length l0 → (Kd.int .u8).C W A' q ((l0.drop p).take q) := by
  obtain ⟨i0, hi0, _, hsz, _⟩ := info_parts info5
  obtain ⟨A', hrun, hC⟩ := run_cut3 (P := Try.prog) 22 5 Try.underlying22 hi0 hsz A0 l0.length c0 p q h hc0
  refine ⟨A', ?_, fun W hW => hC W l0 hW⟩
  clear hC hsz hi0
  go_enter Try.func33, Try.ntmps33
  go_wp2
  go_ret2
  exact ⟨rfl, rfl⟩
theorem piece_no (A0 : Option Addr) (c0 : Nat) (l0 : List Int) (p q : Nat) (w : World) (hm : l0.length ≤ 9223372036854775807) (hp : p ≤ l0.length) (h : ¬ p + q ≤ l0.length) :
    Calls Try.prog 33 #[.slice A0 l0.length c0, .int .i64 (p : Int), .int .i64 (q : Int)] w fun e w' => e = .returned (.tuple #[.slice none 0 0, .bool false]) ∧ w = w' := by
  go_enter Try.func33, Try.ntmps33
  go_wp2
  go_ret2
  exact ⟨rfl, rfl⟩
def wire_ReadText.f (k : Nat) (l0 : List Int) (a1 : Int) (a2 : Int) : Option (ByteArray × Int × Int) :=
  if a1 < 0 then some (⟨#[]⟩, 0, 1) else if a1 > (l0.length : Int) then some (⟨#[]⟩, 0, 1) else if a2 < 0 then some (⟨#[]⟩, 0, 1) else
  (wire_ReadUint.f k l0 a1).bind fun b =>
    if b.2.2 = 0 then
      (if b.1 > a2 then some (⟨#[]⟩, 0, 3)
      else if 0 ≤ b.1 ∧ b.1 ≤ 9223372036854775807 ∧ 0 ≤ b.2.1 ∧ b.2.1 ≤ (l0.length : Int) then
        (if b.2.1 + b.1 ≤ (l0.length : Int) then some (strOfNums ((l0.drop b.2.1.toNat).take b.1.toNat), b.2.1 + b.1, 0) else some (⟨#[]⟩, 0, 10))
      else none)
    else some (⟨#[]⟩, 0, b.2.2)
theorem wire_ReadText.mono : ∀ a0 a1 a2 k, LeO (wire_ReadText.f k a0 a1 a2) (wire_ReadText.f (k + 1) a0 a1 a2) := by
  intro a0 a1 a2 k
  unfold wire_ReadText.f
  exact LeO.ite (LeO.refl _) (LeO.ite (LeO.refl _) (LeO.ite (LeO.refl _) (LeO.bind (wire_ReadUint.mono _ _ _) (fun _ => LeO.refl _))))
set_option maxHeartbeats 4000000 in
set_option maxRecDepth 100000 in
theorem wire_ReadText.calls (k : Nat) (A0 : Option Addr) (c0 : Nat) (l0 : List Int) (a1 : Int) (a2 : Int) (r1 : ByteArray) (r2 : Int) (r3 : Int) (w : World) (hr0 : Kd.C (Kd.int .u8) w A0 l0.length l0) (hc0 : l0.length ≤ c0) (h : wire_ReadText.f k l0 a1 a2 = some (r1, r2, r3)) :
    Calls Try.prog 21 #[.slice A0 l0.length c0, .int .i64 a1, .int .i64 a2] w fun e w' => e = .returned (.tuple #[.string r1, .int .i64 r2, .int .i64 r3]) ∧ Drawn0 w w' := by
  have hm := Kd.C_max hr0
  have HR := Aside0.mk hr0
  unfold wire_ReadText.f at h
  by_cases h1 : a1 < 0
  · rw [if_pos h1] at h
    simp only [Option.some.injEq, Prod.mk.injEq] at h
    obtain ⟨rfl, rfl, rfl⟩ := h
    clear hr0
    go_enter Try.func21, Try.ntmps21
    go_wp2
    go_ret3
    exact ⟨rfl, Drawn0.refl _⟩
  rw [if_neg h1] at h
  by_cases h2 : a1 > (l0.length : Int)
  · rw [if_pos h2] at h
    simp only [Option.some.injEq, Prod.mk.injEq] at h
    obtain ⟨rfl, rfl, rfl⟩ := h
    clear hr0
    go_enter Try.func21, Try.ntmps21
    go_wp2
    go_ret3
    exact ⟨rfl, Drawn0.refl _⟩
  rw [if_neg h2] at h
  by_cases h3 : a2 < 0
  · rw [if_pos h3] at h
    simp only [Option.some.injEq, Prod.mk.injEq] at h
    obtain ⟨rfl, rfl, rfl⟩ := h
    clear hr0
    go_enter Try.func21, Try.ntmps21
    go_wp2
    go_ret3
    exact ⟨rfl, Drawn0.refl _⟩
  rw [if_neg h3] at h
  obtain ⟨⟨n, nx, e⟩, hb, h⟩ := Option.bind_eq_some_iff.1 h
  have HB := Aside0.mk hb
  clear hb hr0
  by_cases h4 : e = 0
  · subst h4
    simp only [if_true] at h
    by_cases h5 : n > a2
    · rw [if_pos h5] at h
      simp only [Option.some.injEq, Prod.mk.injEq] at h
      obtain ⟨rfl, rfl, rfl⟩ := h
      go_enter Try.func21, Try.ntmps21
      go_wp2_with (go_at_call 12; refine (wire_ReadUint.calls k _ _ _ _ _ _ _ _ HR.out hc0 HB.out).mono ?_; rintro e w' ⟨rfl, ⟨⟨m, rfl⟩⟩⟩)
      go_ret3
      exact ⟨rfl, ⟨⟨m, rfl⟩⟩⟩
    · rw [if_neg h5] at h
      by_cases h6 : 0 ≤ n ∧ n ≤ 9223372036854775807 ∧ 0 ≤ nx ∧ nx ≤ (l0.length : Int)
      · rw [if_pos h6] at h
        obtain ⟨g1, g2, g3, g4⟩ := h6
        obtain ⟨q, rfl⟩ := Int.eq_ofNat_of_zero_le g1
        obtain ⟨p, rfl⟩ := Int.eq_ofNat_of_zero_le g3
        by_cases h7 : (p : Int) + (q : Int) ≤ (l0.length : Int)
        · rw [if_pos h7] at h
          simp only [Option.some.injEq, Prod.mk.injEq, Int.toNat_natCast] at h
          obtain ⟨rfl, rfl, rfl⟩ := h
          obtain ⟨A', hcall, hC⟩ := piece_yes A0 c0 l0 p q w hc0 hm (by omega)
          have HC := Aside0.mk hC
          have HP := Aside0.mk (fun W : World => (piece_yes A0 c0 l0 p q W hc0 hm (by omega)))
          clear hcall hC
          go_enter Try.func21, Try.ntmps21
          go_wp2_with (first | (go_at_call 12; refine (wire_ReadUint.calls k _ _ _ _ _ _ _ _ HR.out hc0 HB.out).mono ?_; rintro e w' ⟨rfl, ⟨⟨m, rfl⟩⟩⟩) | (go_at_call 33; obtain ⟨A2, hcall, hC2⟩ := HP.out (w.drewN m); refine hcall.mono ?_; rintro e w' ⟨rfl, rfl⟩; have hcv := Kd.C_string (P := Try.prog) (src := 22) (dst := 9) (e := 5) (c := q) Try.underlying22 Try.underlying5 Try.underlying9 (hC2 _ (Kd.C_drewN HR.out m)); clear hcall hC2))
          go_ret3
          exact ⟨rfl, ⟨⟨m, rfl⟩⟩⟩
        · rw [if_neg h7] at h
          simp only [Option.some.injEq, Prod.mk.injEq] at h
          obtain ⟨rfl, rfl, rfl⟩ := h
          go_enter Try.func21, Try.ntmps21
          go_wp2_with (first | (go_at_call 12; refine (wire_ReadUint.calls k _ _ _ _ _ _ _ _ HR.out hc0 HB.out).mono ?_; rintro e w' ⟨rfl, ⟨⟨m, rfl⟩⟩⟩) | (go_at_call 33; refine (piece_no A0 c0 l0 p q _ hm (by omega) (by omega)).mono ?_; rintro e w' ⟨rfl, rfl⟩))
          go_ret3
          exact ⟨rfl, ⟨⟨m, rfl⟩⟩⟩
      · rw [if_neg h6] at h
        exact absurd h (by simp)
  · have h4' : (e != 0) = true := bne_iff_ne.mpr h4
    rw [if_neg h4] at h
    simp only [Option.some.injEq, Prod.mk.injEq] at h
    obtain ⟨rfl, rfl, rfl⟩ := h
    clear h4
    go_enter Try.func21, Try.ntmps21
    go_wp2_with (go_at_call 12; refine (wire_ReadUint.calls k _ _ _ _ _ _ _ _ HR.out hc0 HB.out).mono ?_; rintro e w' ⟨rfl, ⟨⟨m, rfl⟩⟩⟩)
    go_ret3
    exact ⟨rfl, ⟨⟨m, rfl⟩⟩⟩

/-! ### endonymlaw1_told: function 14 (by hand) -/
def endonymlaw1_told.f : Option Bool := some true
theorem told_1 : wire_ReadUint.f 20 [5, 200, 1] 1 = some (200, 3, 0) := by decide +kernel
theorem told_2 : wire_ReadText.f 20 [2, 97, 98, 9] 0 2 = some (⟨#[97, 98]⟩, 3, 0) := by kernel_rfl
theorem told_3 : wire_Uint.f 20 300 = some [172, 2] := by decide +kernel
theorem told_4 : wire_Sum.f 100 [[49, 50, 51, 52], [53, 54, 55, 56, 57]] = some 3808858755 := by decide +kernel
set_option maxHeartbeats 4000000 in
set_option maxRecDepth 100000 in
theorem endonymlaw1_told.calls (r : Bool) (w : World) (h : endonymlaw1_told.f = some r) :
    Calls Try.prog 14 #[] w fun e w' => e = .returned (.bool r) ∧ Below w.heap.size w w' := by
  obtain rfl := Option.some.inj h
  clear h
  have t5 : ((strOfNums [172, 2]).toList == [172, 2]) = true := by kernel_rfl
  have kc : ∀ (g : Nat) (w : World) (C : Array Value) (n c : Nat), g = w.heap.size → (convert 22 22 (.slice (some ⟨g, 0, none⟩) n c)).run Try.prog (w.alloc (.cells C 5)) = .ok (.slice (some ⟨g, 0, none⟩) n c) (w.alloc (.cells C 5 (C.size, C.size + 1))) := fun g w C n c hg => by subst hg; exact Lib.run_convert_bytes_const (P := Try.prog) w 22 5 C n c Try.underlying22 Try.underlying5
  go_enter Try.func14, Try.ntmps14
  go_wp2_with (first
    | (go_at_call 12; refine (wire_ReadUint.calls 20 _ _ [5, 200, 1] _ _ _ _ _ ?h1 (Nat.le_refl _) told_1).mono ?_; (case h1 => exact C_new .u8 [5, 200, 1] (by decide) rfl); rintro e w' ⟨rfl, ⟨⟨m1, rfl⟩⟩⟩)
    | (go_at_call 21; refine (wire_ReadText.calls 20 _ _ [2, 97, 98, 9] _ _ _ _ _ _ ?h2 (Nat.le_refl _) told_2).mono ?_; (case h2 => exact C_new .u8 [2, 97, 98, 9] (by decide) (by simp)); rintro e w' ⟨rfl, ⟨⟨m2, rfl⟩⟩⟩)
    | (go_at_call 16; refine (wire_Uint.calls 20 _ _ _ told_3).mono ?_; rintro e w3 ⟨v3, rfl, ho, hb⟩; have hcv := own_string (P := Try.prog) Try.underlying22 Try.underlying5 Try.underlying9 (Kd.own_of_R ho); have HB := Aside0.mk hb; clear ho hb)
    | (go_at_call 20; refine (wire_Sum.calls 100 _ _ [[49, 50, 51, 52], [53, 54, 55, 56, 57]] _ _ ?h3 (Nat.le_refl _) told_4).mono ?_; (case h3 => exact C_block2 5 [49, 50, 51, 52] [53, 54, 55, 56, 57] (heap_alloc_eq (by simp)) (by decide) (by decide) (Kd.C_alloc (Kd.C_alloc (C_new .u8 [49, 50, 51, 52] (by decide) rfl) _) _) (Kd.C_alloc (C_new .u8 [53, 54, 55, 56, 57] (by decide) (by simp)) _)); rintro e w' ⟨rfl, ⟨⟨m4, rfl⟩⟩⟩))
  go_ret
  exact ⟨rfl, pw_below_drewN (below_alloc (below_alloc (below_alloc (below_step (pw_below_drewN (below_alloc (pw_below_drewN (below_alloc (Below.refl _ _) _) _) _) _) HB.out) _) _) _) _⟩

/-! ### endonymref1_Same: function 15 -/
def endonymref1_Same.f (l0 : List Int) (l1 : List Int) : Option (Bool) := some ((strOfNums l0).toList == (strOfNums l1).toList)
set_option maxHeartbeats 8000000 in
set_option maxRecDepth 100000 in
theorem endonymref1_Same.calls (A0 : Option Addr) (c0 : Nat) (l0 : List Int) (A1 : Option Addr) (c1 : Nat) (l1 : List Int) (r : Bool) (w : World) (hr0 : Kd.C (Kd.int .u8) w A0 l0.length l0) (hc0 : l0.length ≤ c0) (hr1 : Kd.C (Kd.int .u8) w A1 l1.length l1) (hc1 : l1.length ≤ c1) (h : endonymref1_Same.f l0 l1 = some r) :
  Calls Try.prog 15 #[.slice A0 l0.length c0, .slice A1 l1.length c1] w fun e w' => e = .returned (.bool r) ∧ Drawn0 w w' := by
 have HR0 := Aside0.mk hr0
 have HC0 := Aside0.mk hc0
 clear hr0 hc0
 have HR1 := Aside0.mk hr1
 have HC1 := Aside0.mk hc1
 clear hr1 hc1
 have H : (some ((strOfNums l0).toList == (strOfNums l1).toList)) = some r := h
 clear h
 obtain rfl := Option.some.inj H
 have hcv3 := C_string_at (P := Try.prog) (A := A0) (c := c0) Try.underlying22 Try.underlying5 Try.underlying9 HR0.out
 have hcv4 := C_string_drew (P := Try.prog) (A := A0) (c := c0) Try.underlying22 Try.underlying5 Try.underlying9 HR0.out
 have hcv5 := C_string_at (P := Try.prog) (A := A1) (c := c1) Try.underlying22 Try.underlying5 Try.underlying9 HR1.out
 have hcv6 := C_string_drew (P := Try.prog) (A := A1) (c := c1) Try.underlying22 Try.underlying5 Try.underlying9 HR1.out
 go_enter Try.func15, Try.ntmps15
 go_wp2
 go_ret
 exact ⟨by first | rfl | (simp; done) | (simp [*]; done), by repeat (first | exact Drawn0.refl _ | apply Drawn0.step)⟩

end Go.Proofs.Ytgjmollnjlkjhaa.Q
