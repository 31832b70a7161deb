-- Written by wip/tools/pr.py of this session over the kit's print (widened); the words are the kit's print's own. Not trusted: Lean checks it.
import Derived.Test.YtiaodapgankjnaaQx0
import Derived.Test.YtiaodapgankjnaaQx7
namespace Go.Proofs.Ytiaodapgankjnaa.Q
open Go.RowKit Go.Proofs.YtiaodapgankjnaaW.PrintWords Go.Proofs.YtiaodapgankjnaaW.PrintLast Go.Proofs.YtiaodapgankjnaaW.PrintMore
attribute [local go_sem] max2_int min2_int max_two min_two max_three min_three max_four min_four   -- for this text's walks alone
set_option linter.unusedVariables false
set_option linter.unusedSimpArgs false

/-! ### trie_Trie_Index: function 19 -/
def trie_Trie_Index.f (l0 : List (S57)) : Option (List Int) := if 0 < (l0.length : Int) then (if ([] : List Int).length + ((rd_T57 l0 0).f1).length < 70368744177664 then (some (([] : List Int) ++ ((rd_T57 l0 0).f1))) else (none)) else (none)
set_option maxHeartbeats 8000000 in
set_option maxRecDepth 100000 in
theorem trie_Trie_Index.calls (A0 : Option Addr) (l0 : List (S57)) (r : List Int) (w : World) (hr0 : Kd.PC k57 w A0 l0.length l0) (h : trie_Trie_Index.f l0 = some r) :
  Calls Try.prog 19 #[.pointer A0] w fun e w' => ∃ v0_ : Value, e = .returned (v0_) ∧ Kd.R (Kd.int .u16) 49 w' w.heap.size (fun _ => True) v0_ r ∧ Below w.heap.size w w' := by
 have HR0 := Aside0.mk hr0
 clear hr0
 have HB := Aside0.mk (Below.refl w.heap.size w)
 have H : (if 0 < (l0.length : Int) then (if ([] : List Int).length + ((rd_T57 l0 0).f1).length < 70368744177664 then (some (([] : List Int) ++ ((rd_T57 l0 0).f1))) else (none)) else (none)) = some r := h
 clear h
 by_cases c2 : 0 < (l0.length : Int)
 ·rw [if_pos c2] at H
  have c2b0 : decide (0 < (l0.length : Int)) = true := decide_eq_true c2
  have c2b1 : decide (0 < l0.length) = true := decide_eq_true (by omega)
  clear c2
  by_cases c3 : ([] : List Int).length + ((rd_T57 l0 0).f1).length < 70368744177664
  ·rw [if_pos c3] at H
   have LMc3 := Aside0.mk c3
   clear c3
   obtain ⟨y337, hy337⟩ : ∃ y_ : List Int, y_ = (([] : List Int) ++ ((rd_T57 l0 0).f1)) := ⟨_, rfl⟩
   replace H : (some y337) = some r := by first | (rw [hy337]; with_reducible exact H) | (have H2_ := (Option.bind_some _ _).symm.trans H; rw [hy337]; with_reducible exact H2_) | (have H2_ := (Option.bind_some _ _).symm.trans H; with_reducible exact H2_) | with_reducible exact H | (rw [hy337]; exact H) | exact H
   have Ny337 := Aside0.mk hy337
   clear hy337
   obtain rfl := Option.some.inj H
   have p336 : 0 ≤ (0 : Int) := (by omega)
   have q336 : 0 < (l0.length : Int) := of_decide_eq_true (by first | (with_reducible assumption) | assumption)
   obtain ⟨ad336, A336_1, c336_1, A336_2, c336_2, e336, hx336_0, hx336_1, hx336_2, hl336_1, hi336_1, hl336_2, hi336_2⟩ := at_T57 (Kd.PC_C HR0.out) 0 p336 q336
   cases e336
   have qi336 : (0 < l0.length) = True := eq_true (by omega)
   (try rw [show ((0 : Int)).toNat = 0 from rfl] at hx336_0)
   (try rw [show 0 * 3 = 0 from rfl] at hx336_0)
   (try rw [Addr.add_zero'] at hx336_0)
   (try rw [show ((0 : Int)).toNat = 0 from rfl] at hx336_1)
   (try rw [show 0 * 3 = 0 from rfl] at hx336_1)
   (try rw [Addr.add_zero'] at hx336_1)
   (try rw [show ((0 : Int)).toNat = 0 from rfl] at hx336_2)
   (try rw [show 0 * 3 = 0 from rfl] at hx336_2)
   (try rw [Addr.add_zero'] at hx336_2)
   have HR336_1 := Aside0.mk hi336_1
   have HC336_1 := Aside0.mk hl336_1
   clear hi336_1 hl336_1
   have HR336_2 := Aside0.mk hi336_2
   have HC336_2 := Aside0.mk hl336_2
   clear hi336_2 hl336_2
   replace p336 := eq_true p336
   replace q336 := eq_true q336
   go_enter Try.func19, Try.ntmps19
   go_wp2_with (first | ((with_reducible refine gate_builtin (b := .append) (xs := #[.const (.slice none 0 0), .tmp 6]) rfl ?_); at_builtin; refine Kd.R_append_rows (Kd.int .u16) (w0 := w) w.heap.size rfl (.const (.slice none 0 0)) (.tmp 6) 43 49 (.int .u16 0) 2 rfl Try.underlying43 info49 rfl (by decide) (by omega) (.slice none 0 0) ([] : List Int) ((rd_T57 l0 0).f1) _ _ _ (fun _ => True) (fun _ => False) rfl rfl ?aO ?aR (fun _ _ h => h) (fun _ h => h.elim) ?aF ?aB ?aS ?aL ?_; (case aR => repeat (first | exact HR336_1.out | (with_reducible refine Kd.C_alloc ?_ _) | (with_reducible refine Kd.C_drewN ?_ _) | (with_reducible refine Kd.C_drew ?_))); (case aB => exact (by repeat (first | (with_reducible first | exact HB.out | apply below_alloc | apply pw_below_drewN | apply below_drew1) | exact HB.out))); (case aF => exact (fun _ _ => trivial)); (case aO => exact ((Kd.R_nil _ _ _ _ (fun _ => True)))); (case aS => exact (below_size (by repeat (first | (with_reducible first | exact HB.out | apply below_alloc | apply pw_below_drewN | apply below_drew1) | exact HB.out)))); (case aL => have := LMc3.out; omega); intro v338 w4 ho hb hg hat; rw [← Ny337.out] at ho; have n0_ := Aside0.mk (hb); have n1_ := Aside0.mk (ho); clear HB; have HB := n0_; have HO339 := n1_; clear n0_ n1_; clear ho hb hg hat))
   go_ret
   exact ⟨_, by first | rfl | (simp [errW_none, errW_some] <;> rfl) | (simp [*, errW_none, errW_some] <;> rfl), by (with_reducible repeat (first | apply Kd.R_alloc | apply Kd.R_drewN | apply Kd.R_drew)); exact HO339.out, by repeat (first | (with_reducible first | exact HB.out | apply below_alloc | apply pw_below_drewN | apply below_drew1) | exact HB.out)⟩
  ·rw [if_neg c3] at H
   exact absurd H (by simp)
 ·rw [if_neg c2] at H
  exact absurd H (by simp)

/-! ### trie_Trie_Ranges: function 20 -/
def trie_Trie_Ranges.l0 : Nat → List (S57) → List (S35) → Int → Int → Option ((List (S35)))
 | 0, _, _, _, _ => none
 | k + 1, x0, x3, x4, x11 => if x11 < 1114112 then ((trie_Trie_Get.f x0 x11).bind fun t341 => (if 0 < (x0.length : Int) then (if t341 = ((rd_T57 x0 0).f0) then (trie_Trie_Ranges.l0 k x0 x3 t341 (wrap64 (x11 + 1))) else (if t341 = x4 then (if 0 ≤ (wrap64 ((x3.length : Int) - 1)) then (if (wrap64 ((x3.length : Int) - 1)) < (x3.length : Int) then (trie_Trie_Ranges.l0 k x0 (x3.set ((wrap64 ((x3.length : Int) - 1)) : Int).toNat (⟨(rd_T35 x3 (wrap64 ((x3.length : Int) - 1))).f0, x11, (rd_T35 x3 (wrap64 ((x3.length : Int) - 1))).f2⟩ : S35)) t341 (wrap64 (x11 + 1))) else (none)) else (none)) else (if x3.length < 5864062014805 then (trie_Trie_Ranges.l0 k x0 (x3 ++ [(⟨x11, x11, t341⟩ : S35)]) t341 (wrap64 (x11 + 1))) else (none)))) else (none))) else (some x3)
def trie_Trie_Ranges.f (k : Nat) (l0 : List (S57)) : Option ((List (S35))) := if 0 < (l0.length : Int) then (trie_Trie_Ranges.l0 k l0 ([] : List (S35)) ((rd_T57 l0 0).f0) 0) else (none)
theorem trie_Trie_Ranges.mono_l : ∀ k, (∀ y0 y1 y2 y3, LeO (trie_Trie_Ranges.l0 k y0 y1 y2 y3) (trie_Trie_Ranges.l0 (k + 1) y0 y1 y2 y3))
 | 0 => fun _ _ _ _ r h => by simp [trie_Trie_Ranges.l0] at h
 | k + 1 => by
  have ih0 := trie_Trie_Ranges.mono_l k
  ·intro y0 y1 y2 y3
   unfold trie_Trie_Ranges.l0
   repeat' first
   | (with_reducible exact ih0 _ _ _ _)
   | (with_reducible exact LeO.refl _)
   | (with_reducible exact LeO.none _)
   | (with_reducible refine LeO.ite ?_ ?_)
   | (with_reducible refine LeO.bind ?_ (fun _ => ?_))
   | exact ih0 _ _ _ _
   | exact LeO.none _
   | refine LeO.ite ?_ ?_
   | refine LeO.bind ?_ (fun _ => ?_)
theorem trie_Trie_Ranges.mono : ∀ a0 k, LeO (trie_Trie_Ranges.f k a0) (trie_Trie_Ranges.f (k + 1) a0) := by
 intro a0 k
 have ih0 := trie_Trie_Ranges.mono_l k
 unfold trie_Trie_Ranges.f
 repeat' first
   | (with_reducible exact ih0 _ _ _ _)
   | (with_reducible exact LeO.refl _)
   | (with_reducible exact LeO.none _)
   | (with_reducible refine LeO.ite ?_ ?_)
   | (with_reducible refine LeO.bind ?_ (fun _ => ?_))
   | exact ih0 _ _ _ _
   | exact LeO.none _
   | refine LeO.ite ?_ ?_
   | refine LeO.bind ?_ (fun _ => ?_)
set_option maxHeartbeats 8000000 in
set_option maxRecDepth 100000 in
theorem trie_Trie_Ranges.calls (k : Nat) (A0 : Option Addr) (l0 : List (S57)) (r : List (S35)) (w : World) (hr0 : Kd.PC k57 w A0 l0.length l0) (h : trie_Trie_Ranges.f k l0 = some r) :
  Calls Try.prog 20 #[.pointer A0] w fun e w' => ∃ v0_ : Value, e = .returned (v0_) ∧ Kd.R k35 35 w' w.heap.size (fun _ => True) v0_ r ∧ Below w.heap.size w w' := by
 have hu35 := Try.underlying35
 have HR0 := Aside0.mk hr0
 clear hr0
 have HB := Aside0.mk (Below.refl w.heap.size w)
 have H : (if 0 < (l0.length : Int) then (trie_Trie_Ranges.l0 k l0 ([] : List (S35)) ((rd_T57 l0 0).f0) 0) else (none)) = some r := h
 clear h
 by_cases c2 : 0 < (l0.length : Int)
 ·rw [if_pos c2] at H
  have c2b0 : decide (0 < (l0.length : Int)) = true := decide_eq_true c2
  have c2b1 : decide (0 < l0.length) = true := decide_eq_true (by omega)
  clear c2
  have H' := Aside0.mk H
  clear H
  have p340 : 0 ≤ (0 : Int) := (by omega)
  have q340 : 0 < (l0.length : Int) := of_decide_eq_true (by first | (with_reducible assumption) | assumption)
  obtain ⟨ad340, A340_1, c340_1, A340_2, c340_2, e340, hx340_0, hx340_1, hx340_2, hl340_1, hi340_1, hl340_2, hi340_2⟩ := at_T57 (Kd.PC_C HR0.out) 0 p340 q340
  cases e340
  have qi340 : (0 < l0.length) = True := eq_true (by omega)
  (try rw [show ((0 : Int)).toNat = 0 from rfl] at hx340_0)
  (try rw [show 0 * 3 = 0 from rfl] at hx340_0)
  (try rw [Addr.add_zero'] at hx340_0)
  (try rw [show ((0 : Int)).toNat = 0 from rfl] at hx340_1)
  (try rw [show 0 * 3 = 0 from rfl] at hx340_1)
  (try rw [Addr.add_zero'] at hx340_1)
  (try rw [show ((0 : Int)).toNat = 0 from rfl] at hx340_2)
  (try rw [show 0 * 3 = 0 from rfl] at hx340_2)
  (try rw [Addr.add_zero'] at hx340_2)
  have HR340_1 := Aside0.mk hi340_1
  have HC340_1 := Aside0.mk hl340_1
  clear hi340_1 hl340_1
  have HR340_2 := Aside0.mk hi340_2
  have HC340_2 := Aside0.mk hl340_2
  clear hi340_2 hl340_2
  replace p340 := eq_true p340
  replace q340 := eq_true q340
  go_enter Try.func20, Try.ntmps20
  go_wp2
  go_loopg [3, 4, 11] k (fun kq v3 v4 v11 w' => ∃ (x3_1 : List (S35)) (x4_1 : Int) (x11_1 : Int), v4 = .int .i64 x4_1 ∧ v11 = .int .i64 x11_1 ∧ Aside0 (trie_Trie_Ranges.l0 kq l0 x3_1 x4_1 x11_1 = some r) ∧ Aside0 (kq ≤ k) ∧ Aside0 (Kd.R k35 35 w' w.heap.size (fun _ => True) v3 x3_1) ∧ Aside0 (Below w.heap.size w w'))
  case atStart => exact ⟨(([] : List (S35))), ((rd_T57 l0 0).f0), (0), (by first | rfl | (simp; done) | (simp [*]; done)), (by first | rfl | (simp; done) | (simp [*]; done)), H', ⟨Nat.le_refl _⟩, ⟨by first | exact Kd.R_nil _ _ _ _ _ | exact Kd.N_nil _ _ _ _ _ | exact Kd.V_nil _ _ _ _ _ | exact Kd.Q_nil _ _ _ _ _ | exact Kd.S_nil _ _ _ _ _⟩, ⟨by repeat (first | (with_reducible first | exact HB.out | apply below_alloc | apply pw_below_drewN | apply below_drew1) | exact HB.out)⟩⟩
  case round =>
   clear H'
   try clear c2
   try clear c2b0
   try clear c2b1
   try clear p2
   try clear hx340_0
   try clear hx340_1
   try clear hx340_2
   try clear p340
   try clear q340
   obtain ⟨x3_1, x4_1, x11_1, rfl, rfl, HA, HK1, HO_3, HB⟩ := hrel
   cases gk with
   | zero => exact absurd HA.out (by simp [trie_Trie_Ranges.l0])
   | succ k1 =>
    have H := HA.out
    clear HA
    simp only [trie_Trie_Ranges.l0] at H
    by_cases c3 : x11_1 < 1114112
    ·rw [if_pos c3] at H
     have c3b0 : decide (x11_1 < 1114112) = true := decide_eq_true c3
     clear c3
     replace H := Option.bind_eq_some_iff.mp H
     obtain ⟨t341, A40, H⟩ := H
     replace H : (if 0 < (l0.length : Int) then (if t341 = ((rd_T57 l0 0).f0) then (trie_Trie_Ranges.l0 k1 l0 x3_1 t341 (wrap64 (x11_1 + 1))) else (if t341 = x4_1 then (if 0 ≤ (wrap64 ((x3_1.length : Int) - 1)) then (if (wrap64 ((x3_1.length : Int) - 1)) < (x3_1.length : Int) then (trie_Trie_Ranges.l0 k1 l0 (x3_1.set ((wrap64 ((x3_1.length : Int) - 1)) : Int).toNat (⟨(rd_T35 x3_1 (wrap64 ((x3_1.length : Int) - 1))).f0, x11_1, (rd_T35 x3_1 (wrap64 ((x3_1.length : Int) - 1))).f2⟩ : S35)) t341 (wrap64 (x11_1 + 1))) else (none)) else (none)) else (if x3_1.length < 5864062014805 then (trie_Trie_Ranges.l0 k1 l0 (x3_1 ++ [(⟨x11_1, x11_1, t341⟩ : S35)]) t341 (wrap64 (x11_1 + 1))) else (none)))) else (none)) = some r := H
     have A4 := Aside0.mk A40
     clear A40
     by_cases c5 : 0 < (l0.length : Int)
     ·rw [if_pos c5] at H
      have c5b0 : decide (0 < (l0.length : Int)) = true := decide_eq_true c5
      have c5b1 : decide (0 < l0.length) = true := decide_eq_true (by omega)
      clear c5
      by_cases c6 : t341 = ((rd_T57 l0 0).f0)
      ·rw [if_pos c6] at H
       have c6b0 : (t341 == ((rd_T57 l0 0).f0)) = true := beq_iff_eq.mpr c6
       have c6b1 : (t341 != ((rd_T57 l0 0).f0)) = false := bne_eq_false_iff_eq.mpr c6
       clear c6
       have H' := Aside0.mk H
       clear H
       go_wp2_with (first | ((with_reducible refine gate_callee (f := 13) rfl ?_); refine goesL_ (some 16) rfl rfl Try.func13 (by kernel_rfl) rfl #[.pointer (some ad340), .int .i64 x11_1] rfl (by (try simp only [List.map_toArray, List.map_cons, List.map_nil]); first | done | rfl | (simp only [List.length_drop, List.length_take]; rfl)) ?_; (with_reducible refine (trie_Trie_Get.calls _ l0 x11_1 t341 _ ?side1 A4.out).mono ?_); (case side1 => repeat (first | exact (Kd.PC_below HR0.out HB.out) | (with_reducible refine Kd.PC_alloc ?_ _) | (with_reducible refine Kd.PC_drewN ?_ _) | (with_reducible refine Kd.PC_drew ?_))); rintro e w' ⟨rfl, ⟨nd, rfl⟩⟩; refine ⟨_, rfl, ?_⟩; have p342 : 0 ≤ (0 : Int) := (by omega); have q342 : 0 < (l0.length : Int) := of_decide_eq_true (by first | (with_reducible assumption) | assumption); obtain ⟨ad342, A342_1, c342_1, A342_2, c342_2, e342, hx342_0, hx342_1, hx342_2, hl342_1, hi342_1, hl342_2, hi342_2⟩ := at_T57 (Kd.PC_C HR0.out) 0 p342 q342; obtain rfl : ad340 = ad342 := (by injection e342); have qi342 : (0 < l0.length) = True := eq_true (by omega); (try rw [show ((0 : Int)).toNat = 0 from rfl] at hx342_0); (try rw [show 0 * 3 = 0 from rfl] at hx342_0); (try rw [Addr.add_zero'] at hx342_0); (try rw [show ((0 : Int)).toNat = 0 from rfl] at hx342_1); (try rw [show 0 * 3 = 0 from rfl] at hx342_1); (try rw [Addr.add_zero'] at hx342_1); (try rw [show ((0 : Int)).toNat = 0 from rfl] at hx342_2); (try rw [show 0 * 3 = 0 from rfl] at hx342_2); (try rw [Addr.add_zero'] at hx342_2); replace hx342_0 := (HB.out.cell (World.block_lt_of_cell? w _ hx342_0)).trans hx342_0; replace hx342_1 := (HB.out.cell (World.block_lt_of_cell? w _ hx342_1)).trans hx342_1; replace hx342_2 := (HB.out.cell (World.block_lt_of_cell? w _ hx342_2)).trans hx342_2; have HR342_1 := Aside0.mk hi342_1; have HC342_1 := Aside0.mk hl342_1; clear hi342_1 hl342_1; have HR342_2 := Aside0.mk hi342_2; have HC342_2 := Aside0.mk hl342_2; clear hi342_2 hl342_2; replace p342 := eq_true p342; replace q342 := eq_true q342))
       go_roundg k1
       case measure => have := HK1.out; omega
       case rel => exact ⟨(x3_1), (t341), (wrap64 (x11_1 + 1)), (by first | rfl | (simp; done) | (simp [*]; done)), (by first | rfl | (simp; done) | (simp [*]; done)), H', ⟨by have := HK1.out; omega⟩, ⟨by (with_reducible repeat (first | apply Kd.R_alloc | apply Kd.R_drewN | apply Kd.R_drew)); exact HO_3.out⟩, ⟨by repeat (first | (with_reducible first | exact HB.out | apply below_alloc | apply pw_below_drewN | apply below_drew1) | exact HB.out)⟩⟩
      ·rw [if_neg c6] at H
       have c6b0 : (t341 == ((rd_T57 l0 0).f0)) = false := beq_eq_false_iff_ne.mpr c6
       have c6b1 : (t341 != ((rd_T57 l0 0).f0)) = true := bne_iff_ne.mpr c6
       by_cases c7 : t341 = x4_1
       ·rw [if_pos c7] at H
        have c7b0 : (t341 == x4_1) = true := beq_iff_eq.mpr c7
        have c7b1 : (t341 != x4_1) = false := bne_eq_false_iff_eq.mpr c7
        clear c7
        obtain ⟨ji8, hji8⟩ : ∃ j_ : Int, (wrap64 ((x3_1.length : Int) - 1)) = j_ := ⟨_, rfl⟩
        replace H : (if 0 ≤ (ji8) then (if (ji8) < (x3_1.length : Int) then (trie_Trie_Ranges.l0 k1 l0 (x3_1.set ((ji8) : Int).toNat (⟨(rd_T35 x3_1 (ji8)).f0, x11_1, (rd_T35 x3_1 (ji8)).f2⟩ : S35)) t341 (wrap64 (x11_1 + 1))) else (none)) else (none)) = some r := by first | (rw [hji8] at H; exact H) | (simp only [hji8] at H ⊢; exact H)
        (try rw [hji8] at A4)
        have hji8w : (IntKind.i64.wrap ((x3_1.length : Int) - 1)) = ji8 := (i64_w _).trans hji8
        by_cases c9 : 0 ≤ (ji8)
        ·rw [if_pos c9] at H
         have c9b0 : decide (0 ≤ (ji8)) = true := decide_eq_true c9
         clear c9
         by_cases c10 : (ji8) < (x3_1.length : Int)
         ·rw [if_pos c10] at H
          have c10b0 : decide ((ji8) < (x3_1.length : Int)) = true := decide_eq_true c10
          clear c10
          obtain ⟨y343, hy343⟩ : ∃ y_ : List (S35), y_ = (x3_1.set ((ji8) : Int).toNat (⟨(rd_T35 x3_1 (ji8)).f0, x11_1, (rd_T35 x3_1 (ji8)).f2⟩ : S35)) := ⟨_, rfl⟩
          replace H : (trie_Trie_Ranges.l0 k1 l0 y343 t341 (wrap64 (x11_1 + 1))) = some r := by first | (rw [hy343]; with_reducible exact H) | (have H2_ := (Option.bind_some _ _).symm.trans H; rw [hy343]; with_reducible exact H2_) | (have H2_ := (Option.bind_some _ _).symm.trans H; with_reducible exact H2_) | with_reducible exact H | (rw [hy343]; exact H) | exact H
          have Ny343 := Aside0.mk hy343
          clear hy343
          have H' := Aside0.mk H
          clear H
          go_wp2_with (first | ((with_reducible refine gate_callee (f := 13) rfl ?_); refine goesL_ (some 16) rfl rfl Try.func13 (by kernel_rfl) rfl #[.pointer (some ad340), .int .i64 x11_1] rfl (by (try simp only [List.map_toArray, List.map_cons, List.map_nil]); first | done | rfl | (simp only [List.length_drop, List.length_take]; rfl)) ?_; (with_reducible refine (trie_Trie_Get.calls _ l0 x11_1 t341 _ ?side1 A4.out).mono ?_); (case side1 => repeat (first | exact (Kd.PC_below HR0.out HB.out) | (with_reducible refine Kd.PC_alloc ?_ _) | (with_reducible refine Kd.PC_drewN ?_ _) | (with_reducible refine Kd.PC_drew ?_))); rintro e w' ⟨rfl, ⟨nd, rfl⟩⟩; refine ⟨_, rfl, ?_⟩; (try (rw [drewN_self wr]; generalize hq_ : World.drewN wr _ = wr; have n0_ : Aside0 (Kd.R k35 35 wr w.heap.size (fun _ => True) u3 x3_1) := ⟨by rw [← hq_]; exact (by (with_reducible repeat (first | apply Kd.R_alloc | apply Kd.R_drewN | apply Kd.R_drew)); exact HO_3.out)⟩; have n1_ : Aside0 (Below w.heap.size w wr) := ⟨by rw [← hq_]; exact (by repeat (first | (with_reducible first | exact HB.out | apply below_alloc | apply pw_below_drewN | apply below_drew1) | exact HB.out))⟩; clear HO_3 HB hq_; have HO_3 := n0_; have HB := n1_; clear n0_ n1_)); have p342 : 0 ≤ (0 : Int) := (by omega); have q342 : 0 < (l0.length : Int) := of_decide_eq_true (by first | (with_reducible assumption) | assumption); obtain ⟨ad342, A342_1, c342_1, A342_2, c342_2, e342, hx342_0, hx342_1, hx342_2, hl342_1, hi342_1, hl342_2, hi342_2⟩ := at_T57 (Kd.PC_C HR0.out) 0 p342 q342; obtain rfl : ad340 = ad342 := (by injection e342); have qi342 : (0 < l0.length) = True := eq_true (by omega); (try rw [show ((0 : Int)).toNat = 0 from rfl] at hx342_0); (try rw [show 0 * 3 = 0 from rfl] at hx342_0); (try rw [Addr.add_zero'] at hx342_0); (try rw [show ((0 : Int)).toNat = 0 from rfl] at hx342_1); (try rw [show 0 * 3 = 0 from rfl] at hx342_1); (try rw [Addr.add_zero'] at hx342_1); (try rw [show ((0 : Int)).toNat = 0 from rfl] at hx342_2); (try rw [show 0 * 3 = 0 from rfl] at hx342_2); (try rw [Addr.add_zero'] at hx342_2); replace hx342_0 := (HB.out.cell (World.block_lt_of_cell? w _ hx342_0)).trans hx342_0; replace hx342_1 := (HB.out.cell (World.block_lt_of_cell? w _ hx342_1)).trans hx342_1; replace hx342_2 := (HB.out.cell (World.block_lt_of_cell? w _ hx342_2)).trans hx342_2; have HR342_1 := Aside0.mk hi342_1; have HC342_1 := Aside0.mk hl342_1; clear hi342_1 hl342_1; have HR342_2 := Aside0.mk hi342_2; have HC342_2 := Aside0.mk hl342_2; clear hi342_2 hl342_2; replace p342 := eq_true p342; replace q342 := eq_true q342; obtain ⟨Ao12, co12, eo12⟩ := Kd.R_slice HO_3.out; subst eo12; have p11 : 0 ≤ ((ji8) : Int) := of_decide_eq_true (by first | (with_reducible assumption) | assumption); have q11 : ((ji8) : Int) < ((x3_1.length : Int) : Int) := of_decide_eq_true (by first | (with_reducible assumption) | assumption); obtain ⟨go11, co11, eo11, gb11, gl11, cl11, HG11⟩ := Kd.R_form HO_3.out (by omega); (first | cases eo11 | (injection eo11 with ea_ en_ ec_; (first | subst ea_ | (injection ea_ with ea_; subst ea_)); subst ec_; clear en_)); have GB11 := Aside0.mk gb11; have GG11 := Aside0.mk HG11; clear gb11 gl11 HG11; obtain ⟨ce11, hcl11, hM11, hcc11, hfr11⟩ := Kd.R_elem HO_3.out z35 ((ji8) : Int) p11 q11; obtain rfl := k35_openM hM11; have hx11_0 : wr.cell? ⟨go11, ((ji8) : Int).toNat * 3, none⟩ = some (.int .i64 ((rd_T35 x3_1 (ji8)).f0)) := hcc11 0 _ rfl; have hx11_1 : wr.cell? ⟨go11, ((ji8) : Int).toNat * 3 + 1, none⟩ = some (.int .i64 ((rd_T35 x3_1 (ji8)).f1)) := hcc11 1 _ rfl; have hx11_2 : wr.cell? ⟨go11, ((ji8) : Int).toNat * 3 + 2, none⟩ = some (.int .i64 ((rd_T35 x3_1 (ji8)).f2)) := hcc11 2 _ rfl; have hf11_0 : wr.frozen? ⟨go11, ((ji8) : Int).toNat * 3, none⟩ = false := hfr11 0; have hf11_1 : wr.frozen? ⟨go11, ((ji8) : Int).toNat * 3 + 1, none⟩ = false := hfr11 1; have hf11_2 : wr.frozen? ⟨go11, ((ji8) : Int).toNat * 3 + 2, none⟩ = false := hfr11 2; clear hcl11 hcc11 hfr11 hM11; replace p11 := eq_true p11; replace q11 := eq_true q11; have HX13 := Aside0.mk (show Kd.R k35 35 wr w.heap.size (fun _ => True) (.slice (some ⟨go11, 0, none⟩) x3_1.length co12) x3_1 from (by (with_reducible repeat (first | apply Kd.R_alloc | apply Kd.R_drewN | apply Kd.R_drew)); exact HO_3.out)); obtain ⟨ce13, hcl13, hM13, hcc13, hfr13⟩ := Kd.R_elem HX13.out z35 ((ji8) : Int) (of_decide_eq_true (by first | (with_reducible assumption) | assumption)) (by have h_ : ((ji8) : Int) < ((x3_1.length : Int) : Int) := of_decide_eq_true (by first | (with_reducible assumption) | assumption); first | exact h_ | (have e_ := (Kd.R_reads' HO_3.out).1; omega) | simpa using h_); obtain rfl := k35_openM hM13; have HP13 := Kd.R_seg HX13.out ((ji8) : Int) (of_decide_eq_true (by first | (with_reducible assumption) | assumption)) (by have h_ : ((ji8) : Int) < ((x3_1.length : Int) : Int) := of_decide_eq_true (by first | (with_reducible assumption) | assumption); first | exact h_ | (have e_ := (Kd.R_reads' HO_3.out).1; omega) | simpa using h_) (seg := [.int .i64 x11_1]) (j := 1) hcl13 hcc13 (show 2 ≤ 3 from by decide) (x' := (⟨(rd_T35 x3_1 (ji8)).f0, x11_1, (rd_T35 x3_1 (ji8)).f2⟩ : S35)) (k35_mkM _ _ _ (⟨(rd_T35 x3_1 (ji8)).f0, x11_1, (rd_T35 x3_1 (ji8)).f2⟩ : S35) ) (fun _ hk => hk); have hx13_1 := hcc13 1 _ rfl; (try simp only [show (k35).sz = 3 from rfl, Nat.mul_one, Nat.add_zero] at hx13_1); have hf13_1 := hfr13 1; (try simp only [show (k35).sz = 3 from rfl, Nat.mul_one, Nat.add_zero] at hf13_1); clear hcl13 hcc13 hfr13 hM13) | ((with_reducible refine gate_store (t := 3) (p := 41) rfl ?_); refine store_event (t := 3) (p := 41) (v := ?vo_w14) (w1 := (wr.setCell ⟨go11, ((ji8) : Int).toNat * 3 + 1, none⟩ (.int .i64 x11_1))) ?hg ?ho ?hn ?hr ?_; (case ho => rfl); (case hg => rfl); (case hn => rfl); (case hr => first | (go_simp; done) | (go_simp; rfl)); intro w14 hw; have hg : wr.grownBy w14 (some go11) := (by rw [hw]; exact HP13.2); have hp_ : Kd.R k35 35 w14 w.heap.size (fun _ => True) (.slice (some ⟨go11, 0, none⟩) x3_1.length co12) y343 := (by rw [hw, Ny343.out]; exact HP13.1); clear HP13; have n0_ := Aside0.mk (hp_); have n1_ := Aside0.mk ((by rw [hw]; exact below_set (HB.out) GB11.out : Below w.heap.size w w14)); clear HO_3; clear HB; have HO_3 := n0_; have HB := n1_; clear n0_ n1_; clear hg hw hp_))
          go_roundg k1
          case measure => have := HK1.out; omega
          case rel => exact ⟨(y343), (t341), (wrap64 (x11_1 + 1)), (by first | rfl | (simp; done) | (simp [*]; done)), (by first | rfl | (simp; done) | (simp [*]; done)), H', ⟨by have := HK1.out; omega⟩, ⟨by (with_reducible repeat (first | apply Kd.R_alloc | apply Kd.R_drewN | apply Kd.R_drew)); exact HO_3.out⟩, ⟨by repeat (first | (with_reducible first | exact HB.out | apply below_alloc | apply pw_below_drewN | apply below_drew1) | exact HB.out)⟩⟩
         ·rw [if_neg c10] at H
          exact absurd H (by simp)
        ·rw [if_neg c9] at H
         exact absurd H (by simp)
       ·rw [if_neg c7] at H
        have c7b0 : (t341 == x4_1) = false := beq_eq_false_iff_ne.mpr c7
        have c7b1 : (t341 != x4_1) = true := bne_iff_ne.mpr c7
        by_cases c15 : x3_1.length < 5864062014805
        ·rw [if_pos c15] at H
         have LMc15 := Aside0.mk c15
         clear c15
         obtain ⟨y344, hy344⟩ : ∃ y_ : List (S35), y_ = (x3_1 ++ [(⟨x11_1, x11_1, t341⟩ : S35)]) := ⟨_, rfl⟩
         replace H : (trie_Trie_Ranges.l0 k1 l0 y344 t341 (wrap64 (x11_1 + 1))) = some r := by first | (rw [hy344]; with_reducible exact H) | (have H2_ := (Option.bind_some _ _).symm.trans H; rw [hy344]; with_reducible exact H2_) | (have H2_ := (Option.bind_some _ _).symm.trans H; with_reducible exact H2_) | with_reducible exact H | (rw [hy344]; exact H) | exact H
         have Ny344 := Aside0.mk hy344
         clear hy344
         have H' := Aside0.mk H
         clear H
         go_wp2_with (first | ((with_reducible refine gate_callee (f := 13) rfl ?_); refine goesL_ (some 16) rfl rfl Try.func13 (by kernel_rfl) rfl #[.pointer (some ad340), .int .i64 x11_1] rfl (by (try simp only [List.map_toArray, List.map_cons, List.map_nil]); first | done | rfl | (simp only [List.length_drop, List.length_take]; rfl)) ?_; (with_reducible refine (trie_Trie_Get.calls _ l0 x11_1 t341 _ ?side1 A4.out).mono ?_); (case side1 => repeat (first | exact (Kd.PC_below HR0.out HB.out) | (with_reducible refine Kd.PC_alloc ?_ _) | (with_reducible refine Kd.PC_drewN ?_ _) | (with_reducible refine Kd.PC_drew ?_))); rintro e w' ⟨rfl, ⟨nd, rfl⟩⟩; refine ⟨_, rfl, ?_⟩; have p342 : 0 ≤ (0 : Int) := (by omega); have q342 : 0 < (l0.length : Int) := of_decide_eq_true (by first | (with_reducible assumption) | assumption); obtain ⟨ad342, A342_1, c342_1, A342_2, c342_2, e342, hx342_0, hx342_1, hx342_2, hl342_1, hi342_1, hl342_2, hi342_2⟩ := at_T57 (Kd.PC_C HR0.out) 0 p342 q342; obtain rfl : ad340 = ad342 := (by injection e342); have qi342 : (0 < l0.length) = True := eq_true (by omega); (try rw [show ((0 : Int)).toNat = 0 from rfl] at hx342_0); (try rw [show 0 * 3 = 0 from rfl] at hx342_0); (try rw [Addr.add_zero'] at hx342_0); (try rw [show ((0 : Int)).toNat = 0 from rfl] at hx342_1); (try rw [show 0 * 3 = 0 from rfl] at hx342_1); (try rw [Addr.add_zero'] at hx342_1); (try rw [show ((0 : Int)).toNat = 0 from rfl] at hx342_2); (try rw [show 0 * 3 = 0 from rfl] at hx342_2); (try rw [Addr.add_zero'] at hx342_2); replace hx342_0 := (HB.out.cell (World.block_lt_of_cell? w _ hx342_0)).trans hx342_0; replace hx342_1 := (HB.out.cell (World.block_lt_of_cell? w _ hx342_1)).trans hx342_1; replace hx342_2 := (HB.out.cell (World.block_lt_of_cell? w _ hx342_2)).trans hx342_2; have HR342_1 := Aside0.mk hi342_1; have HC342_1 := Aside0.mk hl342_1; clear hi342_1 hl342_1; have HR342_2 := Aside0.mk hi342_2; have HC342_2 := Aside0.mk hl342_2; clear hi342_2 hl342_2; replace p342 := eq_true p342; replace q342 := eq_true q342) | ((with_reducible refine gate_builtin (b := .append) (xs := #[.tmp 17, .tmp 22]) rfl ?_); at_builtin; refine Kd.R_append k35 (w0 := w) w.heap.size rfl (.tmp 17) (.tmp 22) 22 35 (.agg #[(.int .i64 0), (.int .i64 0), (.int .i64 0)]) 24 rfl Try.underlying22 info35 rfl (by decide) (by omega) u3 x3_1 (⟨x11_1, x11_1, t341⟩ : S35) [.int .i64 x11_1, .int .i64 x11_1, .int .i64 t341] (fun _ => True) (fun _ => False) rfl rfl ?aP (fun _ hk => hk.elim) ?aF ?aO ?aB ?aS ?aL ?_; (case aP => exact k35_mkM _ _ _ (⟨x11_1, x11_1, t341⟩ : S35)); (case aB => exact (by repeat (first | (with_reducible first | exact HB.out | apply below_alloc | apply pw_below_drewN | apply below_drew1) | exact HB.out))); (case aF => exact (fun _ _ => trivial)); (case aO => exact (by (with_reducible repeat (first | apply Kd.R_alloc | apply Kd.R_drewN | apply Kd.R_drew)); exact HO_3.out)); (case aS => exact (below_size (by repeat (first | (with_reducible first | exact HB.out | apply below_alloc | apply pw_below_drewN | apply below_drew1) | exact HB.out)))); (case aL => have := LMc15.out; omega); intro v345 w16 ho hb hg hat; rw [← Ny344.out] at ho; have n0_ := Aside0.mk (hb); have n1_ := Aside0.mk (ho); clear HB; clear HO_3; have HB := n0_; have HO346 := n1_; clear n0_ n1_; clear ho hb hg hat))
         go_roundg k1
         case measure => have := HK1.out; omega
         case rel => exact ⟨(y344), (t341), (wrap64 (x11_1 + 1)), (by first | rfl | (simp; done) | (simp [*]; done)), (by first | rfl | (simp; done) | (simp [*]; done)), H', ⟨by have := HK1.out; omega⟩, ⟨by (with_reducible repeat (first | apply Kd.R_alloc | apply Kd.R_drewN | apply Kd.R_drew)); exact HO346.out⟩, ⟨by repeat (first | (with_reducible first | exact HB.out | apply below_alloc | apply pw_below_drewN | apply below_drew1) | exact HB.out)⟩⟩
        ·rw [if_neg c15] at H
         exact absurd H (by simp)
     ·rw [if_neg c5] at H
      exact absurd H (by simp)
    ·rw [if_neg c3] at H
     have c3b0 : decide (x11_1 < 1114112) = false := decide_eq_false c3
     clear c3
     obtain rfl := Option.some.inj H
     go_wp2
     go_ret
     exact ⟨_, by first | rfl | (simp [errW_none, errW_some] <;> rfl) | (simp [*, errW_none, errW_some] <;> rfl), by (with_reducible repeat (first | apply Kd.R_alloc | apply Kd.R_drewN | apply Kd.R_drew)); exact HO_3.out, by repeat (first | (with_reducible first | exact HB.out | apply below_alloc | apply pw_below_drewN | apply below_drew1) | exact HB.out)⟩
 ·rw [if_neg c2] at H
  exact absurd H (by simp)

/-! ### trie_Trie_Block: function 22 -/
def trie_Trie_Block.f (l0 : List (S57)) (a1 : Int) : Option (List Int × Bool) := (some (List.replicate 64 0 : List Int)).bind fun y347 => (if a1 < 0 then (some ((arrPut 64 y347 ([] : List Int)), false)) else (if 0 < (l0.length : Int) then (if a1 ≥ (((rd_T57 l0 0).f2).length : Int) then (some ((arrPut 64 y347 ([] : List Int)), false)) else (if 0 ≤ a1 then (if a1 < (((rd_T57 l0 0).f2).length : Int) then (some ((arrPut 64 y347 (rd_L4 ((rd_T57 l0 0).f2) a1)), true)) else (none)) else (none))) else (none)))
set_option maxHeartbeats 8000000 in
set_option maxRecDepth 100000 in
theorem trie_Trie_Block.calls (A0 : Option Addr) (l0 : List (S57)) (a1 : Int) (r1 : List Int) (r2 : Bool) (w : World) (hr0 : Kd.PC k57 w A0 l0.length l0) (h : trie_Trie_Block.f l0 a1 = some (r1, r2)) :
  Calls Try.prog 22 #[.pointer A0, .int .i64 a1] w fun e w' => e = .returned (.tuple #[.agg (arrV .u16 64 r1), .bool r2]) ∧ Below w.heap.size w w' := by
 have HR0 := Aside0.mk hr0
 clear hr0
 have HB := Aside0.mk (Below.refl w.heap.size w)
 have H : ((some (List.replicate 64 0 : List Int)).bind fun y347 => (if a1 < 0 then (some ((arrPut 64 y347 ([] : List Int)), false)) else (if 0 < (l0.length : Int) then (if a1 ≥ (((rd_T57 l0 0).f2).length : Int) then (some ((arrPut 64 y347 ([] : List Int)), false)) else (if 0 ≤ a1 then (if a1 < (((rd_T57 l0 0).f2).length : Int) then (some ((arrPut 64 y347 (rd_L4 ((rd_T57 l0 0).f2) a1)), true)) else (none)) else (none))) else (none)))) = some (r1, r2) := h
 clear h
 obtain ⟨y347, hy347⟩ : ∃ y_ : List Int, y_ = (List.replicate 64 0) := ⟨_, rfl⟩
 replace H : (if a1 < 0 then (some ((arrPut 64 y347 ([] : List Int)), false)) else (if 0 < (l0.length : Int) then (if a1 ≥ (((rd_T57 l0 0).f2).length : Int) then (some ((arrPut 64 y347 ([] : List Int)), false)) else (if 0 ≤ a1 then (if a1 < (((rd_T57 l0 0).f2).length : Int) then (some ((arrPut 64 y347 (rd_L4 ((rd_T57 l0 0).f2) a1)), true)) else (none)) else (none))) else (none))) = some (r1, r2) := by first | (rw [hy347]; with_reducible exact H) | (have H2_ := (Option.bind_some _ _).symm.trans H; rw [hy347]; with_reducible exact H2_) | (have H2_ := (Option.bind_some _ _).symm.trans H; with_reducible exact H2_) | with_reducible exact H | (rw [hy347]; exact H) | exact H
 have Ny347 := Aside0.mk hy347
 clear hy347
 by_cases c3 : a1 < 0
 ·rw [if_pos c3] at H
  have c3b0 : decide (a1 < 0) = true := decide_eq_true c3
  clear c3
  obtain ⟨y351, hy351⟩ : ∃ y_ : List Int, y_ = (arrPut 64 y347 ([] : List Int)) := ⟨_, rfl⟩
  replace H : (some (y351, false)) = some (r1, r2) := by first | (rw [hy351]; with_reducible exact H) | (have H2_ := (Option.bind_some _ _).symm.trans H; rw [hy351]; with_reducible exact H2_) | (have H2_ := (Option.bind_some _ _).symm.trans H; with_reducible exact H2_) | with_reducible exact H | (rw [hy351]; exact H) | exact H
  have Ny351 := Aside0.mk hy351
  clear hy351
  simp only [Option.some.injEq, Prod.mk.injEq] at H
  obtain ⟨rfl, rfl⟩ := H
  go_enter Try.func22, Try.ntmps22
  go_wp2_with (first | ((with_reducible refine gate_dst (N := 4) rfl ?_); (try (refine gate_guard (by rfl) ?_; dsimp only)); refine arrvar_event (k := .u16) (n := 64) (t := 50) rfl (N := 4) rfl rfl (by kernel_rfl) (by decide) (Below.refl _ _) ?_; intro goa350 w4 ho5 hb hg_ gb_; have GBa350 := Aside0.mk (Nat.le_trans (below_size (by repeat (first | (with_reducible first | exact HB.out | apply below_alloc | apply pw_below_drewN | apply below_drew1) | exact HB.out))) gb_); clear hg_ gb_; (first | rw [← Ny347.out] at ho5 | (simp only [Int.reduceToNat] at ho5; rw [← Ny347.out] at ho5)); have n0_ := Aside0.mk (Kd.R_lower ho5 (below_size (by repeat (first | (with_reducible first | exact HB.out | apply below_alloc | apply pw_below_drewN | apply below_drew1) | exact HB.out)))); have n1_ := Aside0.mk (below_step (by repeat (first | (with_reducible first | exact HB.out | apply below_alloc | apply pw_below_drewN | apply below_drew1) | exact HB.out)) hb); clear HB; have HO349 := n0_; have HB := n1_; clear n0_ n1_; clear hb ho5) | (refine wpList_build_arr (k := .u16) (n := 64) (t := 50) rfl rfl (by kernel_rfl) ?_; (try simp only [Act.put, List.setIfInBounds_toArray, List.set_cons_zero, List.set_cons_succ])) | ((with_reducible refine gate_store (t := 50) (p := 4) rfl ?_); refine arrput_event (k := .u16) (n := 64) (ys := ([] : List Int)) rfl rfl rfl rfl rfl (by kernel_rfl) HO349.out ?_; intro w7 hp0_ hg hbl_; have hp_ : Kd.R (Kd.int .u16) 50 w7 w.heap.size (fun _ => True) (.slice (some ⟨goa350, 0, none⟩) 64 64) y351 := (by rw [Ny351.out]; exact hp0_); have n0_ := Aside0.mk (hp_); have n1_ := Aside0.mk (hbl_ _ _ HB.out GBa350.out); clear HO349; clear HB; have HO349 := n0_; have HB := n1_; clear n0_ n1_; clear hg hp_ hp0_ hbl_))
  refine bodyPost_ret (results_ct rfl _ _ goa350 50 (arrV .u16 64 y351) (0, 0) _ rfl (by exact (R_arr_heap (k := .u16) (by (with_reducible repeat (first | apply Kd.R_alloc | apply Kd.R_drewN | apply Kd.R_drew)); exact HO349.out)).1) Try.underlying50 rfl (by kernel_rfl)) rfl ?_
  exact ⟨by first | rfl | (simp [errW_none, errW_some] <;> rfl) | (simp [*, errW_none, errW_some] <;> rfl), by repeat (first | (with_reducible first | exact HB.out | apply below_alloc | apply pw_below_drewN | apply below_drew1) | exact HB.out)⟩
 ·rw [if_neg c3] at H
  have c3b0 : decide (a1 < 0) = false := decide_eq_false c3
  clear c3
  by_cases c8 : 0 < (l0.length : Int)
  ·rw [if_pos c8] at H
   have c8b0 : decide (0 < (l0.length : Int)) = true := decide_eq_true c8
   have c8b1 : decide (0 < l0.length) = true := decide_eq_true (by omega)
   clear c8
   by_cases c9 : a1 ≥ (((rd_T57 l0 0).f2).length : Int)
   ·rw [if_pos c9] at H
    have c9b0 : decide ((((rd_T57 l0 0).f2).length : Int) ≤ a1) = true := decide_eq_true c9
    clear c9
    obtain ⟨y353, hy353⟩ : ∃ y_ : List Int, y_ = (arrPut 64 y347 ([] : List Int)) := ⟨_, rfl⟩
    replace H : (some (y353, false)) = some (r1, r2) := by first | (rw [hy353]; with_reducible exact H) | (have H2_ := (Option.bind_some _ _).symm.trans H; rw [hy353]; with_reducible exact H2_) | (have H2_ := (Option.bind_some _ _).symm.trans H; with_reducible exact H2_) | with_reducible exact H | (rw [hy353]; exact H) | exact H
    have Ny353 := Aside0.mk hy353
    clear hy353
    simp only [Option.some.injEq, Prod.mk.injEq] at H
    obtain ⟨rfl, rfl⟩ := H
    go_enter Try.func22, Try.ntmps22
    go_wp2_with (first | ((with_reducible refine gate_dst (N := 4) rfl ?_); (try (refine gate_guard (by rfl) ?_; dsimp only)); refine arrvar_event (k := .u16) (n := 64) (t := 50) rfl (N := 4) rfl rfl (by kernel_rfl) (by decide) (Below.refl _ _) ?_; intro goa350 w10 ho11 hb hg_ gb_; have GBa350 := Aside0.mk (Nat.le_trans (below_size (by repeat (first | (with_reducible first | exact HB.out | apply below_alloc | apply pw_below_drewN | apply below_drew1) | exact HB.out))) gb_); clear hg_ gb_; (first | rw [← Ny347.out] at ho11 | (simp only [Int.reduceToNat] at ho11; rw [← Ny347.out] at ho11)); have n0_ := Aside0.mk (Kd.R_lower ho11 (below_size (by repeat (first | (with_reducible first | exact HB.out | apply below_alloc | apply pw_below_drewN | apply below_drew1) | exact HB.out)))); have n1_ := Aside0.mk (below_step (by repeat (first | (with_reducible first | exact HB.out | apply below_alloc | apply pw_below_drewN | apply below_drew1) | exact HB.out)) hb); clear HB; have HO349 := n0_; have HB := n1_; clear n0_ n1_; clear hb ho11; have p352 : 0 ≤ (0 : Int) := (by omega); have q352 : 0 < (l0.length : Int) := of_decide_eq_true (by first | (with_reducible assumption) | assumption); obtain ⟨ad352, A352_1, c352_1, A352_2, c352_2, e352, hx352_0, hx352_1, hx352_2, hl352_1, hi352_1, hl352_2, hi352_2⟩ := at_T57 (Kd.PC_C HR0.out) 0 p352 q352; cases e352; have qi352 : (0 < l0.length) = True := eq_true (by omega); (try rw [show ((0 : Int)).toNat = 0 from rfl] at hx352_0); (try rw [show 0 * 3 = 0 from rfl] at hx352_0); (try rw [Addr.add_zero'] at hx352_0); (try rw [show ((0 : Int)).toNat = 0 from rfl] at hx352_1); (try rw [show 0 * 3 = 0 from rfl] at hx352_1); (try rw [Addr.add_zero'] at hx352_1); (try rw [show ((0 : Int)).toNat = 0 from rfl] at hx352_2); (try rw [show 0 * 3 = 0 from rfl] at hx352_2); (try rw [Addr.add_zero'] at hx352_2); replace hx352_0 := (HB.out.cell (World.block_lt_of_cell? w _ hx352_0)).trans hx352_0; replace hx352_1 := (HB.out.cell (World.block_lt_of_cell? w _ hx352_1)).trans hx352_1; replace hx352_2 := (HB.out.cell (World.block_lt_of_cell? w _ hx352_2)).trans hx352_2; have HR352_1 := Aside0.mk hi352_1; have HC352_1 := Aside0.mk hl352_1; clear hi352_1 hl352_1; have HR352_2 := Aside0.mk hi352_2; have HC352_2 := Aside0.mk hl352_2; clear hi352_2 hl352_2; replace p352 := eq_true p352; replace q352 := eq_true q352) | (refine wpList_build_arr (k := .u16) (n := 64) (t := 50) rfl rfl (by kernel_rfl) ?_; (try simp only [Act.put, List.setIfInBounds_toArray, List.set_cons_zero, List.set_cons_succ])) | ((with_reducible refine gate_store (t := 50) (p := 4) rfl ?_); refine arrput_event (k := .u16) (n := 64) (ys := ([] : List Int)) rfl rfl rfl rfl rfl (by kernel_rfl) HO349.out ?_; intro w13 hp0_ hg hbl_; have hp_ : Kd.R (Kd.int .u16) 50 w13 w.heap.size (fun _ => True) (.slice (some ⟨goa350, 0, none⟩) 64 64) y353 := (by rw [Ny353.out]; exact hp0_); have n0_ := Aside0.mk (hp_); have n1_ := Aside0.mk (hbl_ _ _ HB.out GBa350.out); clear HO349; clear HB; have HO349 := n0_; have HB := n1_; clear n0_ n1_; clear hg hp_ hp0_ hbl_))
    refine bodyPost_ret (results_ct rfl _ _ goa350 50 (arrV .u16 64 y353) (0, 0) _ rfl (by exact (R_arr_heap (k := .u16) (by (with_reducible repeat (first | apply Kd.R_alloc | apply Kd.R_drewN | apply Kd.R_drew)); exact HO349.out)).1) Try.underlying50 rfl (by kernel_rfl)) rfl ?_
    exact ⟨by first | rfl | (simp [errW_none, errW_some] <;> rfl) | (simp [*, errW_none, errW_some] <;> rfl), by repeat (first | (with_reducible first | exact HB.out | apply below_alloc | apply pw_below_drewN | apply below_drew1) | exact HB.out)⟩
   ·rw [if_neg c9] at H
    have c9b0 : decide ((((rd_T57 l0 0).f2).length : Int) ≤ a1) = false := decide_eq_false c9
    clear c9
    by_cases c14 : 0 ≤ a1
    ·rw [if_pos c14] at H
     have c14b0 : decide (0 ≤ a1) = true := decide_eq_true c14
     clear c14
     by_cases c15 : a1 < (((rd_T57 l0 0).f2).length : Int)
     ·rw [if_pos c15] at H
      have c15b0 : decide (a1 < (((rd_T57 l0 0).f2).length : Int)) = true := decide_eq_true c15
      clear c15
      obtain ⟨y356, hy356⟩ : ∃ y_ : List Int, y_ = (arrPut 64 y347 (rd_L4 ((rd_T57 l0 0).f2) a1)) := ⟨_, rfl⟩
      replace H : (some (y356, true)) = some (r1, r2) := by first | (rw [hy356]; with_reducible exact H) | (have H2_ := (Option.bind_some _ _).symm.trans H; rw [hy356]; with_reducible exact H2_) | (have H2_ := (Option.bind_some _ _).symm.trans H; with_reducible exact H2_) | with_reducible exact H | (rw [hy356]; exact H) | exact H
      have Ny356 := Aside0.mk hy356
      clear hy356
      simp only [Option.some.injEq, Prod.mk.injEq] at H
      obtain ⟨rfl, rfl⟩ := H
      go_enter Try.func22, Try.ntmps22
      go_wp2_with (first | ((with_reducible refine gate_dst (N := 4) rfl ?_); (try (refine gate_guard (by rfl) ?_; dsimp only)); refine arrvar_event (k := .u16) (n := 64) (t := 50) rfl (N := 4) rfl rfl (by kernel_rfl) (by decide) (Below.refl _ _) ?_; intro goa350 w16 ho17 hb hg_ gb_; have GBa350 := Aside0.mk (Nat.le_trans (below_size (by repeat (first | (with_reducible first | exact HB.out | apply below_alloc | apply pw_below_drewN | apply below_drew1) | exact HB.out))) gb_); clear hg_ gb_; (first | rw [← Ny347.out] at ho17 | (simp only [Int.reduceToNat] at ho17; rw [← Ny347.out] at ho17)); have n0_ := Aside0.mk (Kd.R_lower ho17 (below_size (by repeat (first | (with_reducible first | exact HB.out | apply below_alloc | apply pw_below_drewN | apply below_drew1) | exact HB.out)))); have n1_ := Aside0.mk (below_step (by repeat (first | (with_reducible first | exact HB.out | apply below_alloc | apply pw_below_drewN | apply below_drew1) | exact HB.out)) hb); clear HB; have HO349 := n0_; have HB := n1_; clear n0_ n1_; clear hb ho17; have p352 : 0 ≤ (0 : Int) := (by omega); have q352 : 0 < (l0.length : Int) := of_decide_eq_true (by first | (with_reducible assumption) | assumption); obtain ⟨ad352, A352_1, c352_1, A352_2, c352_2, e352, hx352_0, hx352_1, hx352_2, hl352_1, hi352_1, hl352_2, hi352_2⟩ := at_T57 (Kd.PC_C HR0.out) 0 p352 q352; cases e352; have qi352 : (0 < l0.length) = True := eq_true (by omega); (try rw [show ((0 : Int)).toNat = 0 from rfl] at hx352_0); (try rw [show 0 * 3 = 0 from rfl] at hx352_0); (try rw [Addr.add_zero'] at hx352_0); (try rw [show ((0 : Int)).toNat = 0 from rfl] at hx352_1); (try rw [show 0 * 3 = 0 from rfl] at hx352_1); (try rw [Addr.add_zero'] at hx352_1); (try rw [show ((0 : Int)).toNat = 0 from rfl] at hx352_2); (try rw [show 0 * 3 = 0 from rfl] at hx352_2); (try rw [Addr.add_zero'] at hx352_2); replace hx352_0 := (HB.out.cell (World.block_lt_of_cell? w _ hx352_0)).trans hx352_0; replace hx352_1 := (HB.out.cell (World.block_lt_of_cell? w _ hx352_1)).trans hx352_1; replace hx352_2 := (HB.out.cell (World.block_lt_of_cell? w _ hx352_2)).trans hx352_2; have HR352_1 := Aside0.mk hi352_1; have HC352_1 := Aside0.mk hl352_1; clear hi352_1 hl352_1; have HR352_2 := Aside0.mk hi352_2; have HC352_2 := Aside0.mk hl352_2; clear hi352_2 hl352_2; replace p352 := eq_true p352; replace q352 := eq_true q352; have p354 : 0 ≤ (0 : Int) := (by omega); have q354 : 0 < (l0.length : Int) := of_decide_eq_true (by first | (with_reducible assumption) | assumption); obtain ⟨ad354, A354_1, c354_1, A354_2, c354_2, e354, hx354_0, hx354_1, hx354_2, hl354_1, hi354_1, hl354_2, hi354_2⟩ := at_T57 (Kd.PC_C HR0.out) 0 p354 q354; obtain rfl : ad352 = ad354 := (by injection e354); have qi354 : (0 < l0.length) = True := eq_true (by omega); (try rw [show ((0 : Int)).toNat = 0 from rfl] at hx354_0); (try rw [show 0 * 3 = 0 from rfl] at hx354_0); (try rw [Addr.add_zero'] at hx354_0); (try rw [show ((0 : Int)).toNat = 0 from rfl] at hx354_1); (try rw [show 0 * 3 = 0 from rfl] at hx354_1); (try rw [Addr.add_zero'] at hx354_1); (try rw [show ((0 : Int)).toNat = 0 from rfl] at hx354_2); (try rw [show 0 * 3 = 0 from rfl] at hx354_2); (try rw [Addr.add_zero'] at hx354_2); replace hx354_0 := (HB.out.cell (World.block_lt_of_cell? w _ hx354_0)).trans hx354_0; replace hx354_1 := (HB.out.cell (World.block_lt_of_cell? w _ hx354_1)).trans hx354_1; replace hx354_2 := (HB.out.cell (World.block_lt_of_cell? w _ hx354_2)).trans hx354_2; have HR354_1 := Aside0.mk hi354_1; have HC354_1 := Aside0.mk hl354_1; clear hi354_1 hl354_1; have HR354_2 := Aside0.mk hi354_2; have HC354_2 := Aside0.mk hl354_2; clear hi354_2 hl354_2; replace p354 := eq_true p354; replace q354 := eq_true q354; have ea_ := Option.some.inj (hx352_1.symm.trans hx354_1); injection ea_ with ea_ en_ ec_; subst ea_; subst ec_; clear en_; have ea_ := Option.some.inj (hx352_2.symm.trans hx354_2); injection ea_ with ea_ en_ ec_; subst ea_; subst ec_; clear en_; have p355 : 0 ≤ (a1 : Int) := of_decide_eq_true (by first | (with_reducible assumption) | assumption); have q355 : a1 < (((rd_T57 l0 0).f2).length : Int) := of_decide_eq_true (by first | (with_reducible assumption) | assumption); obtain ⟨ad355, e355, hx355_0⟩ := at_L4 HR354_2.out a1 p355 q355; cases e355; replace hx355_0 := ArrAt_below HB.out hx355_0; replace p355 := eq_true p355; replace q355 := eq_true q355) | ((refine wpList_load_arr rfl _ rfl rfl hx355_0 Try.underlying50 (by kernel_rfl) ?_); (try simp only [Act.put, List.setIfInBounds_toArray, List.set_cons_zero, List.set_cons_succ])) | ((with_reducible refine gate_store (t := 50) (p := 4) rfl ?_); refine arrput_event (k := .u16) (n := 64) (ys := (rd_L4 ((rd_T57 l0 0).f2) a1)) rfl rfl rfl rfl rfl (by kernel_rfl) HO349.out ?_; intro w19 hp0_ hg hbl_; have hp_ : Kd.R (Kd.int .u16) 50 w19 w.heap.size (fun _ => True) (.slice (some ⟨goa350, 0, none⟩) 64 64) y356 := (by rw [Ny356.out]; exact hp0_); have n0_ := Aside0.mk (hp_); have n1_ := Aside0.mk (hbl_ _ _ HB.out GBa350.out); clear HO349; clear HB; have HO349 := n0_; have HB := n1_; clear n0_ n1_; clear hg hp_ hp0_ hbl_))
      refine bodyPost_ret (results_ct rfl _ _ goa350 50 (arrV .u16 64 y356) (0, 0) _ rfl (by exact (R_arr_heap (k := .u16) (by (with_reducible repeat (first | apply Kd.R_alloc | apply Kd.R_drewN | apply Kd.R_drew)); exact HO349.out)).1) Try.underlying50 rfl (by kernel_rfl)) rfl ?_
      exact ⟨by first | rfl | (simp [errW_none, errW_some] <;> rfl) | (simp [*, errW_none, errW_some] <;> rfl), by repeat (first | (with_reducible first | exact HB.out | apply below_alloc | apply pw_below_drewN | apply below_drew1) | exact HB.out)⟩
     ·rw [if_neg c15] at H
      exact absurd H (by simp)
    ·rw [if_neg c14] at H
     exact absurd H (by simp)
  ·rw [if_neg c8] at H
   exact absurd H (by simp)

-- NOT PRINTED: function 5 (endonymlaw4_TrieBlocks)

end Go.Proofs.Ytiaodapgankjnaa.Q
