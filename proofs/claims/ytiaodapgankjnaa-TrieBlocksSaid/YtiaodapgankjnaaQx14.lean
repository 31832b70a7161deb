-- Written by wip/tools/pr.py of this session over the kit's print (widened); the words are the kit's print's own. Not trusted: Lean checks it.
import Derived.Test.YtiaodapgankjnaaQx0
import Derived.Test.YtiaodapgankjnaaQx6
namespace Go.Proofs.Ytiaodapgankjnaa.Q
open Go.RowKit Go.Proofs.YtiaodapgankjnaaW.PrintWords Go.Proofs.YtiaodapgankjnaaW.PrintLast Go.Proofs.YtiaodapgankjnaaW.PrintMore
attribute [local go_sem] max2_int min2_int max_two min_two max_three min_three max_four min_four   -- for this text's walks alone
set_option linter.unusedVariables false
set_option linter.unusedSimpArgs false

/-! ### trie_Trie_Index: function 19 -/
def trie_Trie_Index.f (l0 : List (S57)) : Option (List Int) := if 0 < (l0.length : Int) then (if ([] : List Int).length + ((rd_T57 l0 0).f1).length < 70368744177664 then (some (([] : List Int) ++ ((rd_T57 l0 0).f1))) else (none)) else (none)
set_option maxHeartbeats 8000000 in
set_option maxRecDepth 100000 in
theorem trie_Trie_Index.calls (A0 : Option Addr) (l0 : List (S57)) (r : List Int) (w : World) (hr0 : Kd.PC k57 w A0 l0.length l0) (h : trie_Trie_Index.f l0 = some r) :
  Calls Try.prog 19 #[.pointer A0] w fun e w' => ∃ v0_ : Value, e = .returned (v0_) ∧ Kd.R (Kd.int .u16) 49 w' w.heap.size (fun _ => True) v0_ r ∧ Below w.heap.size w w' := by
 have HR0 := Aside0.mk hr0
 clear hr0
 have HB := Aside0.mk (Below.refl w.heap.size w)
 have H : (if 0 < (l0.length : Int) then (if ([] : List Int).length + ((rd_T57 l0 0).f1).length < 70368744177664 then (some (([] : List Int) ++ ((rd_T57 l0 0).f1))) else (none)) else (none)) = some r := h
 clear h
 by_cases c2 : 0 < (l0.length : Int)
 ·rw [if_pos c2] at H
  have c2b0 : decide (0 < (l0.length : Int)) = true := decide_eq_true c2
  have c2b1 : decide (0 < l0.length) = true := decide_eq_true (by omega)
  clear c2
  by_cases c3 : ([] : List Int).length + ((rd_T57 l0 0).f1).length < 70368744177664
  ·rw [if_pos c3] at H
   have LMc3 := Aside0.mk c3
   clear c3
   obtain ⟨y267, hy267⟩ : ∃ y_ : List Int, y_ = (([] : List Int) ++ ((rd_T57 l0 0).f1)) := ⟨_, rfl⟩
   replace H : (some y267) = some r := by first | (rw [hy267]; with_reducible exact H) | (have H2_ := (Option.bind_some _ _).symm.trans H; rw [hy267]; with_reducible exact H2_) | (have H2_ := (Option.bind_some _ _).symm.trans H; with_reducible exact H2_) | with_reducible exact H | (rw [hy267]; exact H) | exact H
   have Ny267 := Aside0.mk hy267
   clear hy267
   obtain rfl := Option.some.inj H
   have p266 : 0 ≤ (0 : Int) := (by omega)
   have q266 : 0 < (l0.length : Int) := of_decide_eq_true (by first | (with_reducible assumption) | assumption)
   obtain ⟨ad266, A266_1, c266_1, A266_2, c266_2, e266, hx266_0, hx266_1, hx266_2, hl266_1, hi266_1, hl266_2, hi266_2⟩ := at_T57 (Kd.PC_C HR0.out) 0 p266 q266
   cases e266
   have qi266 : (0 < l0.length) = True := eq_true (by omega)
   (try rw [show ((0 : Int)).toNat = 0 from rfl] at hx266_0)
   (try rw [show 0 * 3 = 0 from rfl] at hx266_0)
   (try rw [Addr.add_zero'] at hx266_0)
   (try rw [show ((0 : Int)).toNat = 0 from rfl] at hx266_1)
   (try rw [show 0 * 3 = 0 from rfl] at hx266_1)
   (try rw [Addr.add_zero'] at hx266_1)
   (try rw [show ((0 : Int)).toNat = 0 from rfl] at hx266_2)
   (try rw [show 0 * 3 = 0 from rfl] at hx266_2)
   (try rw [Addr.add_zero'] at hx266_2)
   have HR266_1 := Aside0.mk hi266_1
   have HC266_1 := Aside0.mk hl266_1
   clear hi266_1 hl266_1
   have HR266_2 := Aside0.mk hi266_2
   have HC266_2 := Aside0.mk hl266_2
   clear hi266_2 hl266_2
   replace p266 := eq_true p266
   replace q266 := eq_true q266
   go_enter Try.func19, Try.ntmps19
   go_wp2_with (first | ((with_reducible refine gate_builtin (b := .append) (xs := #[.const (.slice none 0 0), .tmp 6]) rfl ?_); at_builtin; refine Kd.R_append_rows (Kd.int .u16) (w0 := w) w.heap.size rfl (.const (.slice none 0 0)) (.tmp 6) 43 49 (.int .u16 0) 2 rfl Try.underlying43 info49 rfl (by decide) (by omega) (.slice none 0 0) ([] : List Int) ((rd_T57 l0 0).f1) _ _ _ (fun _ => True) (fun _ => False) rfl rfl ?aO ?aR (fun _ _ h => h) (fun _ h => h.elim) ?aF ?aB ?aS ?aL ?_; (case aR => repeat (first | exact HR266_1.out | (with_reducible refine Kd.C_alloc ?_ _) | (with_reducible refine Kd.C_drewN ?_ _) | (with_reducible refine Kd.C_drew ?_))); (case aB => exact (by repeat (first | (with_reducible first | exact HB.out | apply below_alloc | apply pw_below_drewN | apply below_drew1) | exact HB.out))); (case aF => exact (fun _ _ => trivial)); (case aO => exact ((Kd.R_nil _ _ _ _ (fun _ => True)))); (case aS => exact (below_size (by repeat (first | (with_reducible first | exact HB.out | apply below_alloc | apply pw_below_drewN | apply below_drew1) | exact HB.out)))); (case aL => have := LMc3.out; omega); intro v268 w4 ho hb hg hat; rw [← Ny267.out] at ho; have n0_ := Aside0.mk (hb); have n1_ := Aside0.mk (ho); clear HB; have HB := n0_; have HO269 := n1_; clear n0_ n1_; clear ho hb hg hat))
   go_ret
   exact ⟨_, by first | rfl | (simp [errW_none, errW_some] <;> rfl) | (simp [*, errW_none, errW_some] <;> rfl), by (with_reducible repeat (first | apply Kd.R_alloc | apply Kd.R_drewN | apply Kd.R_drew)); exact HO269.out, by repeat (first | (with_reducible first | exact HB.out | apply below_alloc | apply pw_below_drewN | apply below_drew1) | exact HB.out)⟩
  ·rw [if_neg c3] at H
   exact absurd H (by simp)
 ·rw [if_neg c2] at H
  exact absurd H (by simp)

/-! ### trie_Trie_Ranges: function 20 -/
def trie_Trie_Ranges.l0 : Nat → List (S57) → List (S35) → Int → Int → Option ((List (S35)))
 | 0, _, _, _, _ => none
 | k + 1, x0, x3, x4, x11 => if x11 < 1114112 then ((trie_Trie_Get.f x0 x11).bind fun t271 => (if 0 < (x0.length : Int) then (if t271 = ((rd_T57 x0 0).f0) then (trie_Trie_Ranges.l0 k x0 x3 t271 (wrap64 (x11 + 1))) else (if t271 = x4 then (if 0 ≤ (wrap64 ((x3.length : Int) - 1)) then (if (wrap64 ((x3.length : Int) - 1)) < (x3.length : Int) then (trie_Trie_Ranges.l0 k x0 (x3.set ((wrap64 ((x3.length : Int) - 1)) : Int).toNat (⟨(rd_T35 x3 (wrap64 ((x3.length : Int) - 1))).f0, x11, (rd_T35 x3 (wrap64 ((x3.length : Int) - 1))).f2⟩ : S35)) t271 (wrap64 (x11 + 1))) else (none)) else (none)) else (if x3.length < 5864062014805 then (trie_Trie_Ranges.l0 k x0 (x3 ++ [(⟨x11, x11, t271⟩ : S35)]) t271 (wrap64 (x11 + 1))) else (none)))) else (none))) else (some x3)
def trie_Trie_Ranges.f (k : Nat) (l0 : List (S57)) : Option ((List (S35))) := if 0 < (l0.length : Int) then (trie_Trie_Ranges.l0 k l0 ([] : List (S35)) ((rd_T57 l0 0).f0) 0) else (none)
theorem trie_Trie_Ranges.mono_l : ∀ k, (∀ y0 y1 y2 y3, LeO (trie_Trie_Ranges.l0 k y0 y1 y2 y3) (trie_Trie_Ranges.l0 (k + 1) y0 y1 y2 y3))
 | 0 => fun _ _ _ _ r h => by simp [trie_Trie_Ranges.l0] at h
 | k + 1 => by
  have ih0 := trie_Trie_Ranges.mono_l k
  ·intro y0 y1 y2 y3
   unfold trie_Trie_Ranges.l0
   repeat' first
   | (with_reducible exact ih0 _ _ _ _)
   | (with_reducible exact LeO.refl _)
   | (with_reducible exact LeO.none _)
   | (with_reducible refine LeO.ite ?_ ?_)
   | (with_reducible refine LeO.bind ?_ (fun _ => ?_))
   | exact ih0 _ _ _ _
   | exact LeO.none _
   | refine LeO.ite ?_ ?_
   | refine LeO.bind ?_ (fun _ => ?_)
theorem trie_Trie_Ranges.mono : ∀ a0 k, LeO (trie_Trie_Ranges.f k a0) (trie_Trie_Ranges.f (k + 1) a0) := by
 intro a0 k
 have ih0 := trie_Trie_Ranges.mono_l k
 unfold trie_Trie_Ranges.f
 repeat' first
   | (with_reducible exact ih0 _ _ _ _)
   | (with_reducible exact LeO.refl _)
   | (with_reducible exact LeO.none _)
   | (with_reducible refine LeO.ite ?_ ?_)
   | (with_reducible refine LeO.bind ?_ (fun _ => ?_))
   | exact ih0 _ _ _ _
   | exact LeO.none _
   | refine LeO.ite ?_ ?_
   | refine LeO.bind ?_ (fun _ => ?_)
set_option maxHeartbeats 8000000 in
set_option maxRecDepth 100000 in
theorem trie_Trie_Ranges.calls (k : Nat) (A0 : Option Addr) (l0 : List (S57)) (r : List (S35)) (w : World) (hr0 : Kd.PC k57 w A0 l0.length l0) (h : trie_Trie_Ranges.f k l0 = some r) :
  Calls Try.prog 20 #[.pointer A0] w fun e w' => ∃ v0_ : Value, e = .returned (v0_) ∧ Kd.R k35 35 w' w.heap.size (fun _ => True) v0_ r ∧ Below w.heap.size w w' := by
 have hu35 := Try.underlying35
 have HR0 := Aside0.mk hr0
 clear hr0
 have HB := Aside0.mk (Below.refl w.heap.size w)
 have H : (if 0 < (l0.length : Int) then (trie_Trie_Ranges.l0 k l0 ([] : List (S35)) ((rd_T57 l0 0).f0) 0) else (none)) = some r := h
 clear h
 by_cases c2 : 0 < (l0.length : Int)
 ·rw [if_pos c2] at H
  have c2b0 : decide (0 < (l0.length : Int)) = true := decide_eq_true c2
  have c2b1 : decide (0 < l0.length) = true := decide_eq_true (by omega)
  clear c2
  have H' := Aside0.mk H
  clear H
  have p270 : 0 ≤ (0 : Int) := (by omega)
  have q270 : 0 < (l0.length : Int) := of_decide_eq_true (by first | (with_reducible assumption) | assumption)
  obtain ⟨ad270, A270_1, c270_1, A270_2, c270_2, e270, hx270_0, hx270_1, hx270_2, hl270_1, hi270_1, hl270_2, hi270_2⟩ := at_T57 (Kd.PC_C HR0.out) 0 p270 q270
  cases e270
  have qi270 : (0 < l0.length) = True := eq_true (by omega)
  (try rw [show ((0 : Int)).toNat = 0 from rfl] at hx270_0)
  (try rw [show 0 * 3 = 0 from rfl] at hx270_0)
  (try rw [Addr.add_zero'] at hx270_0)
  (try rw [show ((0 : Int)).toNat = 0 from rfl] at hx270_1)
  (try rw [show 0 * 3 = 0 from rfl] at hx270_1)
  (try rw [Addr.add_zero'] at hx270_1)
  (try rw [show ((0 : Int)).toNat = 0 from rfl] at hx270_2)
  (try rw [show 0 * 3 = 0 from rfl] at hx270_2)
  (try rw [Addr.add_zero'] at hx270_2)
  have HR270_1 := Aside0.mk hi270_1
  have HC270_1 := Aside0.mk hl270_1
  clear hi270_1 hl270_1
  have HR270_2 := Aside0.mk hi270_2
  have HC270_2 := Aside0.mk hl270_2
  clear hi270_2 hl270_2
  replace p270 := eq_true p270
  replace q270 := eq_true q270
  go_enter Try.func20, Try.ntmps20
  go_wp2
  go_loopg [3, 4, 11] k (fun kq v3 v4 v11 w' => ∃ (x3_1 : List (S35)) (x4_1 : Int) (x11_1 : Int), v4 = .int .i64 x4_1 ∧ v11 = .int .i64 x11_1 ∧ Aside0 (trie_Trie_Ranges.l0 kq l0 x3_1 x4_1 x11_1 = some r) ∧ Aside0 (kq ≤ k) ∧ Aside0 (Kd.R k35 35 w' w.heap.size (fun _ => True) v3 x3_1) ∧ Aside0 (Below w.heap.size w w'))
  case atStart => exact ⟨(([] : List (S35))), ((rd_T57 l0 0).f0), (0), (by first | rfl | (simp; done) | (simp [*]; done)), (by first | rfl | (simp; done) | (simp [*]; done)), H', ⟨Nat.le_refl _⟩, ⟨by first | exact Kd.R_nil _ _ _ _ _ | exact Kd.N_nil _ _ _ _ _ | exact Kd.V_nil _ _ _ _ _ | exact Kd.Q_nil _ _ _ _ _ | exact Kd.S_nil _ _ _ _ _⟩, ⟨by repeat (first | (with_reducible first | exact HB.out | apply below_alloc | apply pw_below_drewN | apply below_drew1) | exact HB.out)⟩⟩
  case round =>
   clear H'
   (try clear c2); (try clear c2b0); (try clear c2b1); (try clear p2); (try clear q2); (try clear hx2); (try clear qi2); (try clear hx270_0); (try clear hx270_1); (try clear hx270_2); (try clear p270); (try clear q270)
   obtain ⟨x3_1, x4_1, x11_1, rfl, rfl, HA, HK1, HO_3, HB⟩ := hrel
   cases gk with
   | zero => exact absurd HA.out (by simp [trie_Trie_Ranges.l0])
   | succ k1 =>
    have H := HA.out
    clear HA
    simp only [trie_Trie_Ranges.l0] at H
    by_cases c3 : x11_1 < 1114112
    ·rw [if_pos c3] at H
     have c3b0 : decide (x11_1 < 1114112) = true := decide_eq_true c3
     clear c3
     replace H := Option.bind_eq_some_iff.mp H
     obtain ⟨t271, A40, H⟩ := H
     replace H : (if 0 < (l0.length : Int) then (if t271 = ((rd_T57 l0 0).f0) then (trie_Trie_Ranges.l0 k1 l0 x3_1 t271 (wrap64 (x11_1 + 1))) else (if t271 = x4_1 then (if 0 ≤ (wrap64 ((x3_1.length : Int) - 1)) then (if (wrap64 ((x3_1.length : Int) - 1)) < (x3_1.length : Int) then (trie_Trie_Ranges.l0 k1 l0 (x3_1.set ((wrap64 ((x3_1.length : Int) - 1)) : Int).toNat (⟨(rd_T35 x3_1 (wrap64 ((x3_1.length : Int) - 1))).f0, x11_1, (rd_T35 x3_1 (wrap64 ((x3_1.length : Int) - 1))).f2⟩ : S35)) t271 (wrap64 (x11_1 + 1))) else (none)) else (none)) else (if x3_1.length < 5864062014805 then (trie_Trie_Ranges.l0 k1 l0 (x3_1 ++ [(⟨x11_1, x11_1, t271⟩ : S35)]) t271 (wrap64 (x11_1 + 1))) else (none)))) else (none)) = some r := H
     have A4 := Aside0.mk A40
     clear A40
     by_cases c5 : 0 < (l0.length : Int)
     ·rw [if_pos c5] at H
      have c5b0 : decide (0 < (l0.length : Int)) = true := decide_eq_true c5
      have c5b1 : decide (0 < l0.length) = true := decide_eq_true (by omega)
      clear c5
      by_cases c6 : t271 = ((rd_T57 l0 0).f0)
      ·rw [if_pos c6] at H
       have c6b0 : (t271 == ((rd_T57 l0 0).f0)) = true := beq_iff_eq.mpr c6
       have c6b1 : (t271 != ((rd_T57 l0 0).f0)) = false := bne_eq_false_iff_eq.mpr c6
       clear c6
       have H' := Aside0.mk H
       clear H
       go_wp2_with (first | ((with_reducible refine gate_callee (f := 13) rfl ?_); refine goesL_ (some 16) rfl rfl Try.func13 (by kernel_rfl) rfl #[.pointer (some ad270), .int .i64 x11_1] rfl (by (try simp only [List.map_toArray, List.map_cons, List.map_nil]); first | done | rfl | (simp only [List.length_drop, List.length_take]; rfl)) ?_; (with_reducible refine (trie_Trie_Get.calls _ l0 x11_1 t271 _ ?side1 A4.out).mono ?_); (case side1 => repeat (first | exact (Kd.PC_below HR0.out HB.out) | (with_reducible refine Kd.PC_alloc ?_ _) | (with_reducible refine Kd.PC_drewN ?_ _) | (with_reducible refine Kd.PC_drew ?_))); rintro e w' ⟨rfl, ⟨nd, rfl⟩⟩; refine ⟨_, rfl, ?_⟩; have p272 : 0 ≤ (0 : Int) := (by omega); have q272 : 0 < (l0.length : Int) := of_decide_eq_true (by first | (with_reducible assumption) | assumption); obtain ⟨ad272, A272_1, c272_1, A272_2, c272_2, e272, hx272_0, hx272_1, hx272_2, hl272_1, hi272_1, hl272_2, hi272_2⟩ := at_T57 (Kd.PC_C HR0.out) 0 p272 q272; obtain rfl : ad270 = ad272 := (by injection e272); have qi272 : (0 < l0.length) = True := eq_true (by omega); (try rw [show ((0 : Int)).toNat = 0 from rfl] at hx272_0); (try rw [show 0 * 3 = 0 from rfl] at hx272_0); (try rw [Addr.add_zero'] at hx272_0); (try rw [show ((0 : Int)).toNat = 0 from rfl] at hx272_1); (try rw [show 0 * 3 = 0 from rfl] at hx272_1); (try rw [Addr.add_zero'] at hx272_1); (try rw [show ((0 : Int)).toNat = 0 from rfl] at hx272_2); (try rw [show 0 * 3 = 0 from rfl] at hx272_2); (try rw [Addr.add_zero'] at hx272_2); replace hx272_0 := (HB.out.cell (World.block_lt_of_cell? w _ hx272_0)).trans hx272_0; replace hx272_1 := (HB.out.cell (World.block_lt_of_cell? w _ hx272_1)).trans hx272_1; replace hx272_2 := (HB.out.cell (World.block_lt_of_cell? w _ hx272_2)).trans hx272_2; have HR272_1 := Aside0.mk hi272_1; have HC272_1 := Aside0.mk hl272_1; clear hi272_1 hl272_1; have HR272_2 := Aside0.mk hi272_2; have HC272_2 := Aside0.mk hl272_2; clear hi272_2 hl272_2; replace p272 := eq_true p272; replace q272 := eq_true q272))
       go_roundg k1
       case measure => have := HK1.out; omega
       case rel => exact ⟨(x3_1), (t271), (wrap64 (x11_1 + 1)), (by first | rfl | (simp; done) | (simp [*]; done)), (by first | rfl | (simp; done) | (simp [*]; done)), H', ⟨by have := HK1.out; omega⟩, ⟨by (with_reducible repeat (first | apply Kd.R_alloc | apply Kd.R_drewN | apply Kd.R_drew)); exact HO_3.out⟩, ⟨by repeat (first | (with_reducible first | exact HB.out | apply below_alloc | apply pw_below_drewN | apply below_drew1) | exact HB.out)⟩⟩
      ·rw [if_neg c6] at H
       have c6b0 : (t271 == ((rd_T57 l0 0).f0)) = false := beq_eq_false_iff_ne.mpr c6
       have c6b1 : (t271 != ((rd_T57 l0 0).f0)) = true := bne_iff_ne.mpr c6
       by_cases c7 : t271 = x4_1
       ·rw [if_pos c7] at H
        have c7b0 : (t271 == x4_1) = true := beq_iff_eq.mpr c7
        have c7b1 : (t271 != x4_1) = false := bne_eq_false_iff_eq.mpr c7
        clear c7
        obtain ⟨ji8, hji8⟩ : ∃ j_ : Int, (wrap64 ((x3_1.length : Int) - 1)) = j_ := ⟨_, rfl⟩
        replace H : (if 0 ≤ (ji8) then (if (ji8) < (x3_1.length : Int) then (trie_Trie_Ranges.l0 k1 l0 (x3_1.set ((ji8) : Int).toNat (⟨(rd_T35 x3_1 (ji8)).f0, x11_1, (rd_T35 x3_1 (ji8)).f2⟩ : S35)) t271 (wrap64 (x11_1 + 1))) else (none)) else (none)) = some r := by first | (rw [hji8] at H; exact H) | (simp only [hji8] at H ⊢; exact H)
        (try rw [hji8] at A4)
        have hji8w : (IntKind.i64.wrap ((x3_1.length : Int) - 1)) = ji8 := (i64_w _).trans hji8
        by_cases c9 : 0 ≤ (ji8)
        ·rw [if_pos c9] at H
         have c9b0 : decide (0 ≤ (ji8)) = true := decide_eq_true c9
         clear c9
         by_cases c10 : (ji8) < (x3_1.length : Int)
         ·rw [if_pos c10] at H
          have c10b0 : decide ((ji8) < (x3_1.length : Int)) = true := decide_eq_true c10
          clear c10
          obtain ⟨y273, hy273⟩ : ∃ y_ : List (S35), y_ = (x3_1.set ((ji8) : Int).toNat (⟨(rd_T35 x3_1 (ji8)).f0, x11_1, (rd_T35 x3_1 (ji8)).f2⟩ : S35)) := ⟨_, rfl⟩
          replace H : (trie_Trie_Ranges.l0 k1 l0 y273 t271 (wrap64 (x11_1 + 1))) = some r := by first | (rw [hy273]; with_reducible exact H) | (have H2_ := (Option.bind_some _ _).symm.trans H; rw [hy273]; with_reducible exact H2_) | (have H2_ := (Option.bind_some _ _).symm.trans H; with_reducible exact H2_) | with_reducible exact H | (rw [hy273]; exact H) | exact H
          have Ny273 := Aside0.mk hy273
          clear hy273
          have H' := Aside0.mk H
          clear H
          go_wp2_with (first | ((with_reducible refine gate_callee (f := 13) rfl ?_); refine goesL_ (some 16) rfl rfl Try.func13 (by kernel_rfl) rfl #[.pointer (some ad270), .int .i64 x11_1] rfl (by (try simp only [List.map_toArray, List.map_cons, List.map_nil]); first | done | rfl | (simp only [List.length_drop, List.length_take]; rfl)) ?_; (with_reducible refine (trie_Trie_Get.calls _ l0 x11_1 t271 _ ?side1 A4.out).mono ?_); (case side1 => repeat (first | exact (Kd.PC_below HR0.out HB.out) | (with_reducible refine Kd.PC_alloc ?_ _) | (with_reducible refine Kd.PC_drewN ?_ _) | (with_reducible refine Kd.PC_drew ?_))); rintro e w' ⟨rfl, ⟨nd, rfl⟩⟩; refine ⟨_, rfl, ?_⟩; (try (rw [drewN_self wr]; generalize hq_ : World.drewN wr _ = wr; have n0_ : Aside0 (Kd.R k35 35 wr w.heap.size (fun _ => True) u3 x3_1) := ⟨by rw [← hq_]; exact (by (with_reducible repeat (first | apply Kd.R_alloc | apply Kd.R_drewN | apply Kd.R_drew)); exact HO_3.out)⟩; have n1_ : Aside0 (Below w.heap.size w wr) := ⟨by rw [← hq_]; exact (by repeat (first | (with_reducible first | exact HB.out | apply below_alloc | apply pw_below_drewN | apply below_drew1) | exact HB.out))⟩; clear HO_3 HB hq_; have HO_3 := n0_; have HB := n1_; clear n0_ n1_)); have p272 : 0 ≤ (0 : Int) := (by omega); have q272 : 0 < (l0.length : Int) := of_decide_eq_true (by first | (with_reducible assumption) | assumption); obtain ⟨ad272, A272_1, c272_1, A272_2, c272_2, e272, hx272_0, hx272_1, hx272_2, hl272_1, hi272_1, hl272_2, hi272_2⟩ := at_T57 (Kd.PC_C HR0.out) 0 p272 q272; obtain rfl : ad270 = ad272 := (by injection e272); have qi272 : (0 < l0.length) = True := eq_true (by omega); (try rw [show ((0 : Int)).toNat = 0 from rfl] at hx272_0); (try rw [show 0 * 3 = 0 from rfl] at hx272_0); (try rw [Addr.add_zero'] at hx272_0); (try rw [show ((0 : Int)).toNat = 0 from rfl] at hx272_1); (try rw [show 0 * 3 = 0 from rfl] at hx272_1); (try rw [Addr.add_zero'] at hx272_1); (try rw [show ((0 : Int)).toNat = 0 from rfl] at hx272_2); (try rw [show 0 * 3 = 0 from rfl] at hx272_2); (try rw [Addr.add_zero'] at hx272_2); replace hx272_0 := (HB.out.cell (World.block_lt_of_cell? w _ hx272_0)).trans hx272_0; replace hx272_1 := (HB.out.cell (World.block_lt_of_cell? w _ hx272_1)).trans hx272_1; replace hx272_2 := (HB.out.cell (World.block_lt_of_cell? w _ hx272_2)).trans hx272_2; have HR272_1 := Aside0.mk hi272_1; have HC272_1 := Aside0.mk hl272_1; clear hi272_1 hl272_1; have HR272_2 := Aside0.mk hi272_2; have HC272_2 := Aside0.mk hl272_2; clear hi272_2 hl272_2; replace p272 := eq_true p272; replace q272 := eq_true q272; obtain ⟨Ao12, co12, eo12⟩ := Kd.R_slice HO_3.out; subst eo12; have p11 : 0 ≤ ((ji8) : Int) := of_decide_eq_true (by first | (with_reducible assumption) | assumption); have q11 : ((ji8) : Int) < ((x3_1.length : Int) : Int) := of_decide_eq_true (by first | (with_reducible assumption) | assumption); obtain ⟨go11, co11, eo11, gb11, gl11, cl11, HG11⟩ := Kd.R_form HO_3.out (by omega); (first | cases eo11 | (injection eo11 with ea_ en_ ec_; (first | subst ea_ | (injection ea_ with ea_; subst ea_)); subst ec_; clear en_)); have GB11 := Aside0.mk gb11; have GG11 := Aside0.mk HG11; clear gb11 gl11 HG11; obtain ⟨ce11, hcl11, hM11, hcc11, hfr11⟩ := Kd.R_elem HO_3.out z35 ((ji8) : Int) p11 q11; obtain rfl := k35_openM hM11; have hx11_0 : wr.cell? ⟨go11, ((ji8) : Int).toNat * 3, none⟩ = some (.int .i64 ((rd_T35 x3_1 (ji8)).f0)) := hcc11 0 _ rfl; have hx11_1 : wr.cell? ⟨go11, ((ji8) : Int).toNat * 3 + 1, none⟩ = some (.int .i64 ((rd_T35 x3_1 (ji8)).f1)) := hcc11 1 _ rfl; have hx11_2 : wr.cell? ⟨go11, ((ji8) : Int).toNat * 3 + 2, none⟩ = some (.int .i64 ((rd_T35 x3_1 (ji8)).f2)) := hcc11 2 _ rfl; have hf11_0 : wr.frozen? ⟨go11, ((ji8) : Int).toNat * 3, none⟩ = false := hfr11 0; have hf11_1 : wr.frozen? ⟨go11, ((ji8) : Int).toNat * 3 + 1, none⟩ = false := hfr11 1; have hf11_2 : wr.frozen? ⟨go11, ((ji8) : Int).toNat * 3 + 2, none⟩ = false := hfr11 2; clear hcl11 hcc11 hfr11 hM11; replace p11 := eq_true p11; replace q11 := eq_true q11; have HX13 := Aside0.mk (show Kd.R k35 35 wr w.heap.size (fun _ => True) (.slice (some ⟨go11, 0, none⟩) x3_1.length co12) x3_1 from (by (with_reducible repeat (first | apply Kd.R_alloc | apply Kd.R_drewN | apply Kd.R_drew)); exact HO_3.out)); obtain ⟨ce13, hcl13, hM13, hcc13, hfr13⟩ := Kd.R_elem HX13.out z35 ((ji8) : Int) (of_decide_eq_true (by first | (with_reducible assumption) | assumption)) (by have h_ : ((ji8) : Int) < ((x3_1.length : Int) : Int) := of_decide_eq_true (by first | (with_reducible assumption) | assumption); first | exact h_ | (have e_ := (Kd.R_reads' HO_3.out).1; omega) | simpa using h_); obtain rfl := k35_openM hM13; have HP13 := Kd.R_seg HX13.out ((ji8) : Int) (of_decide_eq_true (by first | (with_reducible assumption) | assumption)) (by have h_ : ((ji8) : Int) < ((x3_1.length : Int) : Int) := of_decide_eq_true (by first | (with_reducible assumption) | assumption); first | exact h_ | (have e_ := (Kd.R_reads' HO_3.out).1; omega) | simpa using h_) (seg := [.int .i64 x11_1]) (j := 1) hcl13 hcc13 (show 2 ≤ 3 from by decide) (x' := (⟨(rd_T35 x3_1 (ji8)).f0, x11_1, (rd_T35 x3_1 (ji8)).f2⟩ : S35)) (k35_mkM _ _ _ (⟨(rd_T35 x3_1 (ji8)).f0, x11_1, (rd_T35 x3_1 (ji8)).f2⟩ : S35) ) (fun _ hk => hk); have hx13_1 := hcc13 1 _ rfl; (try simp only [show (k35).sz = 3 from rfl, Nat.mul_one, Nat.add_zero] at hx13_1); have hf13_1 := hfr13 1; (try simp only [show (k35).sz = 3 from rfl, Nat.mul_one, Nat.add_zero] at hf13_1); clear hcl13 hcc13 hfr13 hM13) | ((with_reducible refine gate_store (t := 3) (p := 41) rfl ?_); refine store_event (t := 3) (p := 41) (v := ?vo_w14) (w1 := (wr.setCell ⟨go11, ((ji8) : Int).toNat * 3 + 1, none⟩ (.int .i64 x11_1))) ?hg ?ho ?hn ?hr ?_; (case ho => rfl); (case hg => rfl); (case hn => rfl); (case hr => first | (go_simp; done) | (go_simp; rfl)); intro w14 hw; have hg : wr.grownBy w14 (some go11) := (by rw [hw]; exact HP13.2); have hp_ : Kd.R k35 35 w14 w.heap.size (fun _ => True) (.slice (some ⟨go11, 0, none⟩) x3_1.length co12) y273 := (by rw [hw, Ny273.out]; exact HP13.1); clear HP13; have n0_ := Aside0.mk (hp_); have n1_ := Aside0.mk ((by rw [hw]; exact below_set (HB.out) GB11.out : Below w.heap.size w w14)); clear HO_3; clear HB; have HO_3 := n0_; have HB := n1_; clear n0_ n1_; clear hg hw hp_))
          go_roundg k1
          case measure => have := HK1.out; omega
          case rel => exact ⟨(y273), (t271), (wrap64 (x11_1 + 1)), (by first | rfl | (simp; done) | (simp [*]; done)), (by first | rfl | (simp; done) | (simp [*]; done)), H', ⟨by have := HK1.out; omega⟩, ⟨by (with_reducible repeat (first | apply Kd.R_alloc | apply Kd.R_drewN | apply Kd.R_drew)); exact HO_3.out⟩, ⟨by repeat (first | (with_reducible first | exact HB.out | apply below_alloc | apply pw_below_drewN | apply below_drew1) | exact HB.out)⟩⟩
         ·rw [if_neg c10] at H
          exact absurd H (by simp)
        ·rw [if_neg c9] at H
         exact absurd H (by simp)
       ·rw [if_neg c7] at H
        have c7b0 : (t271 == x4_1) = false := beq_eq_false_iff_ne.mpr c7
        have c7b1 : (t271 != x4_1) = true := bne_iff_ne.mpr c7
        by_cases c15 : x3_1.length < 5864062014805
        ·rw [if_pos c15] at H
         have LMc15 := Aside0.mk c15
         clear c15
         obtain ⟨y274, hy274⟩ : ∃ y_ : List (S35), y_ = (x3_1 ++ [(⟨x11_1, x11_1, t271⟩ : S35)]) := ⟨_, rfl⟩
         replace H : (trie_Trie_Ranges.l0 k1 l0 y274 t271 (wrap64 (x11_1 + 1))) = some r := by first | (rw [hy274]; with_reducible exact H) | (have H2_ := (Option.bind_some _ _).symm.trans H; rw [hy274]; with_reducible exact H2_) | (have H2_ := (Option.bind_some _ _).symm.trans H; with_reducible exact H2_) | with_reducible exact H | (rw [hy274]; exact H) | exact H
         have Ny274 := Aside0.mk hy274
         clear hy274
         have H' := Aside0.mk H
         clear H
         go_wp2_with (first | ((with_reducible refine gate_callee (f := 13) rfl ?_); refine goesL_ (some 16) rfl rfl Try.func13 (by kernel_rfl) rfl #[.pointer (some ad270), .int .i64 x11_1] rfl (by (try simp only [List.map_toArray, List.map_cons, List.map_nil]); first | done | rfl | (simp only [List.length_drop, List.length_take]; rfl)) ?_; (with_reducible refine (trie_Trie_Get.calls _ l0 x11_1 t271 _ ?side1 A4.out).mono ?_); (case side1 => repeat (first | exact (Kd.PC_below HR0.out HB.out) | (with_reducible refine Kd.PC_alloc ?_ _) | (with_reducible refine Kd.PC_drewN ?_ _) | (with_reducible refine Kd.PC_drew ?_))); rintro e w' ⟨rfl, ⟨nd, rfl⟩⟩; refine ⟨_, rfl, ?_⟩; have p272 : 0 ≤ (0 : Int) := (by omega); have q272 : 0 < (l0.length : Int) := of_decide_eq_true (by first | (with_reducible assumption) | assumption); obtain ⟨ad272, A272_1, c272_1, A272_2, c272_2, e272, hx272_0, hx272_1, hx272_2, hl272_1, hi272_1, hl272_2, hi272_2⟩ := at_T57 (Kd.PC_C HR0.out) 0 p272 q272; obtain rfl : ad270 = ad272 := (by injection e272); have qi272 : (0 < l0.length) = True := eq_true (by omega); (try rw [show ((0 : Int)).toNat = 0 from rfl] at hx272_0); (try rw [show 0 * 3 = 0 from rfl] at hx272_0); (try rw [Addr.add_zero'] at hx272_0); (try rw [show ((0 : Int)).toNat = 0 from rfl] at hx272_1); (try rw [show 0 * 3 = 0 from rfl] at hx272_1); (try rw [Addr.add_zero'] at hx272_1); (try rw [show ((0 : Int)).toNat = 0 from rfl] at hx272_2); (try rw [show 0 * 3 = 0 from rfl] at hx272_2); (try rw [Addr.add_zero'] at hx272_2); replace hx272_0 := (HB.out.cell (World.block_lt_of_cell? w _ hx272_0)).trans hx272_0; replace hx272_1 := (HB.out.cell (World.block_lt_of_cell? w _ hx272_1)).trans hx272_1; replace hx272_2 := (HB.out.cell (World.block_lt_of_cell? w _ hx272_2)).trans hx272_2; have HR272_1 := Aside0.mk hi272_1; have HC272_1 := Aside0.mk hl272_1; clear hi272_1 hl272_1; have HR272_2 := Aside0.mk hi272_2; have HC272_2 := Aside0.mk hl272_2; clear hi272_2 hl272_2; replace p272 := eq_true p272; replace q272 := eq_true q272) | ((with_reducible refine gate_builtin (b := .append) (xs := #[.tmp 17, .tmp 22]) rfl ?_); at_builtin; refine Kd.R_append k35 (w0 := w) w.heap.size rfl (.tmp 17) (.tmp 22) 22 35 (.agg #[(.int .i64 0), (.int .i64 0), (.int .i64 0)]) 24 rfl Try.underlying22 info35 rfl (by decide) (by omega) u3 x3_1 (⟨x11_1, x11_1, t271⟩ : S35) [.int .i64 x11_1, .int .i64 x11_1, .int .i64 t271] (fun _ => True) (fun _ => False) rfl rfl ?aP (fun _ hk => hk.elim) ?aF ?aO ?aB ?aS ?aL ?_; (case aP => exact k35_mkM _ _ _ (⟨x11_1, x11_1, t271⟩ : S35)); (case aB => exact (by repeat (first | (with_reducible first | exact HB.out | apply below_alloc | apply pw_below_drewN | apply below_drew1) | exact HB.out))); (case aF => exact (fun _ _ => trivial)); (case aO => exact (by (with_reducible repeat (first | apply Kd.R_alloc | apply Kd.R_drewN | apply Kd.R_drew)); exact HO_3.out)); (case aS => exact (below_size (by repeat (first | (with_reducible first | exact HB.out | apply below_alloc | apply pw_below_drewN | apply below_drew1) | exact HB.out)))); (case aL => have := LMc15.out; omega); intro v275 w16 ho hb hg hat; rw [← Ny274.out] at ho; have n0_ := Aside0.mk (hb); have n1_ := Aside0.mk (ho); clear HB; clear HO_3; have HB := n0_; have HO276 := n1_; clear n0_ n1_; clear ho hb hg hat))
         go_roundg k1
         case measure => have := HK1.out; omega
         case rel => exact ⟨(y274), (t271), (wrap64 (x11_1 + 1)), (by first | rfl | (simp; done) | (simp [*]; done)), (by first | rfl | (simp; done) | (simp [*]; done)), H', ⟨by have := HK1.out; omega⟩, ⟨by (with_reducible repeat (first | apply Kd.R_alloc | apply Kd.R_drewN | apply Kd.R_drew)); exact HO276.out⟩, ⟨by repeat (first | (with_reducible first | exact HB.out | apply below_alloc | apply pw_below_drewN | apply below_drew1) | exact HB.out)⟩⟩
        ·rw [if_neg c15] at H
         exact absurd H (by simp)
     ·rw [if_neg c5] at H
      exact absurd H (by simp)
    ·rw [if_neg c3] at H
     have c3b0 : decide (x11_1 < 1114112) = false := decide_eq_false c3
     clear c3
     obtain rfl := Option.some.inj H
     go_wp2
     go_ret
     exact ⟨_, by first | rfl | (simp [errW_none, errW_some] <;> rfl) | (simp [*, errW_none, errW_some] <;> rfl), by (with_reducible repeat (first | apply Kd.R_alloc | apply Kd.R_drewN | apply Kd.R_drew)); exact HO_3.out, by repeat (first | (with_reducible first | exact HB.out | apply below_alloc | apply pw_below_drewN | apply below_drew1) | exact HB.out)⟩
 ·rw [if_neg c2] at H
  exact absurd H (by simp)

/-! ### trie_Trie_Block: function 22 -/
def trie_Trie_Block.f (l0 : List (S57)) (a1 : Int) : Option (List Int × Bool) := (some (List.replicate 64 0 : List Int)).bind fun y277 => (if a1 < 0 then (some ((arrPut 64 y277 ([] : List Int)), false)) else (if 0 < (l0.length : Int) then (if a1 ≥ (((rd_T57 l0 0).f2).length : Int) then (some ((arrPut 64 y277 ([] : List Int)), false)) else (if 0 ≤ a1 then (if a1 < (((rd_T57 l0 0).f2).length : Int) then (some ((arrPut 64 y277 (rd_L4 ((rd_T57 l0 0).f2) a1)), true)) else (none)) else (none))) else (none)))
set_option maxHeartbeats 8000000 in
set_option maxRecDepth 100000 in
theorem trie_Trie_Block.calls (A0 : Option Addr) (l0 : List (S57)) (a1 : Int) (r1 : List Int) (r2 : Bool) (w : World) (hr0 : Kd.PC k57 w A0 l0.length l0) (h : trie_Trie_Block.f l0 a1 = some (r1, r2)) :
  Calls Try.prog 22 #[.pointer A0, .int .i64 a1] w fun e w' => e = .returned (.tuple #[.agg (arrV .u16 64 r1), .bool r2]) ∧ Below w.heap.size w w' := by
 have HR0 := Aside0.mk hr0
 clear hr0
 have HB := Aside0.mk (Below.refl w.heap.size w)
 have H : ((some (List.replicate 64 0 : List Int)).bind fun y277 => (if a1 < 0 then (some ((arrPut 64 y277 ([] : List Int)), false)) else (if 0 < (l0.length : Int) then (if a1 ≥ (((rd_T57 l0 0).f2).length : Int) then (some ((arrPut 64 y277 ([] : List Int)), false)) else (if 0 ≤ a1 then (if a1 < (((rd_T57 l0 0).f2).length : Int) then (some ((arrPut 64 y277 (rd_L4 ((rd_T57 l0 0).f2) a1)), true)) else (none)) else (none))) else (none)))) = some (r1, r2) := h
 clear h
 obtain ⟨y277, hy277⟩ : ∃ y_ : List Int, y_ = (List.replicate 64 0) := ⟨_, rfl⟩
 replace H : (if a1 < 0 then (some ((arrPut 64 y277 ([] : List Int)), false)) else (if 0 < (l0.length : Int) then (if a1 ≥ (((rd_T57 l0 0).f2).length : Int) then (some ((arrPut 64 y277 ([] : List Int)), false)) else (if 0 ≤ a1 then (if a1 < (((rd_T57 l0 0).f2).length : Int) then (some ((arrPut 64 y277 (rd_L4 ((rd_T57 l0 0).f2) a1)), true)) else (none)) else (none))) else (none))) = some (r1, r2) := by first | (rw [hy277]; with_reducible exact H) | (have H2_ := (Option.bind_some _ _).symm.trans H; rw [hy277]; with_reducible exact H2_) | (have H2_ := (Option.bind_some _ _).symm.trans H; with_reducible exact H2_) | with_reducible exact H | (rw [hy277]; exact H) | exact H
 have Ny277 := Aside0.mk hy277
 clear hy277
 by_cases c3 : a1 < 0
 ·rw [if_pos c3] at H
  have c3b0 : decide (a1 < 0) = true := decide_eq_true c3
  clear c3
  obtain ⟨y281, hy281⟩ : ∃ y_ : List Int, y_ = (arrPut 64 y277 ([] : List Int)) := ⟨_, rfl⟩
  replace H : (some (y281, false)) = some (r1, r2) := by first | (rw [hy281]; with_reducible exact H) | (have H2_ := (Option.bind_some _ _).symm.trans H; rw [hy281]; with_reducible exact H2_) | (have H2_ := (Option.bind_some _ _).symm.trans H; with_reducible exact H2_) | with_reducible exact H | (rw [hy281]; exact H) | exact H
  have Ny281 := Aside0.mk hy281
  clear hy281
  simp only [Option.some.injEq, Prod.mk.injEq] at H
  obtain ⟨rfl, rfl⟩ := H
  go_enter Try.func22, Try.ntmps22
  go_wp2_with (first | ((with_reducible refine gate_dst (N := 4) rfl ?_); (try (refine gate_guard (by rfl) ?_; dsimp only)); refine arrvar_event (k := .u16) (n := 64) (t := 50) rfl (N := 4) rfl rfl (by kernel_rfl) (by decide) (Below.refl _ _) ?_; intro goa280 w4 ho5 hb hg_ gb_; have GBa280 := Aside0.mk (Nat.le_trans (below_size (by repeat (first | (with_reducible first | exact HB.out | apply below_alloc | apply pw_below_drewN | apply below_drew1) | exact HB.out))) gb_); clear hg_ gb_; (first | rw [← Ny277.out] at ho5 | (simp only [Int.reduceToNat] at ho5; rw [← Ny277.out] at ho5)); have n0_ := Aside0.mk (Kd.R_lower ho5 (below_size (by repeat (first | (with_reducible first | exact HB.out | apply below_alloc | apply pw_below_drewN | apply below_drew1) | exact HB.out)))); have n1_ := Aside0.mk (below_step (by repeat (first | (with_reducible first | exact HB.out | apply below_alloc | apply pw_below_drewN | apply below_drew1) | exact HB.out)) hb); clear HB; have HO279 := n0_; have HB := n1_; clear n0_ n1_; clear hb ho5) | (refine wpList_build_arr (k := .u16) (n := 64) (t := 50) rfl rfl (by kernel_rfl) ?_; (try simp only [Act.put, List.setIfInBounds_toArray, List.set_cons_zero, List.set_cons_succ])) | ((with_reducible refine gate_store (t := 50) (p := 4) rfl ?_); refine arrput_event (k := .u16) (n := 64) (ys := ([] : List Int)) rfl rfl rfl rfl rfl (by kernel_rfl) HO279.out ?_; intro w7 hp0_ hg hbl_; have hp_ : Kd.R (Kd.int .u16) 50 w7 w.heap.size (fun _ => True) (.slice (some ⟨goa280, 0, none⟩) 64 64) y281 := (by rw [Ny281.out]; exact hp0_); have n0_ := Aside0.mk (hp_); have n1_ := Aside0.mk (hbl_ _ _ HB.out GBa280.out); clear HO279; clear HB; have HO279 := n0_; have HB := n1_; clear n0_ n1_; clear hg hp_ hp0_ hbl_))
  refine bodyPost_ret (results_ct rfl _ _ goa280 50 (arrV .u16 64 y281) (0, 0) _ rfl (by exact (R_arr_heap (k := .u16) (by (with_reducible repeat (first | apply Kd.R_alloc | apply Kd.R_drewN | apply Kd.R_drew)); exact HO279.out)).1) Try.underlying50 rfl (by kernel_rfl)) rfl ?_
  exact ⟨by first | rfl | (simp [errW_none, errW_some] <;> rfl) | (simp [*, errW_none, errW_some] <;> rfl), by repeat (first | (with_reducible first | exact HB.out | apply below_alloc | apply pw_below_drewN | apply below_drew1) | exact HB.out)⟩
 ·rw [if_neg c3] at H
  have c3b0 : decide (a1 < 0) = false := decide_eq_false c3
  clear c3
  by_cases c8 : 0 < (l0.length : Int)
  ·rw [if_pos c8] at H
   have c8b0 : decide (0 < (l0.length : Int)) = true := decide_eq_true c8
   have c8b1 : decide (0 < l0.length) = true := decide_eq_true (by omega)
   clear c8
   by_cases c9 : a1 ≥ (((rd_T57 l0 0).f2).length : Int)
   ·rw [if_pos c9] at H
    have c9b0 : decide ((((rd_T57 l0 0).f2).length : Int) ≤ a1) = true := decide_eq_true c9
    clear c9
    obtain ⟨y283, hy283⟩ : ∃ y_ : List Int, y_ = (arrPut 64 y277 ([] : List Int)) := ⟨_, rfl⟩
    replace H : (some (y283, false)) = some (r1, r2) := by first | (rw [hy283]; with_reducible exact H) | (have H2_ := (Option.bind_some _ _).symm.trans H; rw [hy283]; with_reducible exact H2_) | (have H2_ := (Option.bind_some _ _).symm.trans H; with_reducible exact H2_) | with_reducible exact H | (rw [hy283]; exact H) | exact H
    have Ny283 := Aside0.mk hy283
    clear hy283
    simp only [Option.some.injEq, Prod.mk.injEq] at H
    obtain ⟨rfl, rfl⟩ := H
    go_enter Try.func22, Try.ntmps22
    go_wp2_with (first | ((with_reducible refine gate_dst (N := 4) rfl ?_); (try (refine gate_guard (by rfl) ?_; dsimp only)); refine arrvar_event (k := .u16) (n := 64) (t := 50) rfl (N := 4) rfl rfl (by kernel_rfl) (by decide) (Below.refl _ _) ?_; intro goa280 w10 ho11 hb hg_ gb_; have GBa280 := Aside0.mk (Nat.le_trans (below_size (by repeat (first | (with_reducible first | exact HB.out | apply below_alloc | apply pw_below_drewN | apply below_drew1) | exact HB.out))) gb_); clear hg_ gb_; (first | rw [← Ny277.out] at ho11 | (simp only [Int.reduceToNat] at ho11; rw [← Ny277.out] at ho11)); have n0_ := Aside0.mk (Kd.R_lower ho11 (below_size (by repeat (first | (with_reducible first | exact HB.out | apply below_alloc | apply pw_below_drewN | apply below_drew1) | exact HB.out)))); have n1_ := Aside0.mk (below_step (by repeat (first | (with_reducible first | exact HB.out | apply below_alloc | apply pw_below_drewN | apply below_drew1) | exact HB.out)) hb); clear HB; have HO279 := n0_; have HB := n1_; clear n0_ n1_; clear hb ho11; have p282 : 0 ≤ (0 : Int) := (by omega); have q282 : 0 < (l0.length : Int) := of_decide_eq_true (by first | (with_reducible assumption) | assumption); obtain ⟨ad282, A282_1, c282_1, A282_2, c282_2, e282, hx282_0, hx282_1, hx282_2, hl282_1, hi282_1, hl282_2, hi282_2⟩ := at_T57 (Kd.PC_C HR0.out) 0 p282 q282; cases e282; have qi282 : (0 < l0.length) = True := eq_true (by omega); (try rw [show ((0 : Int)).toNat = 0 from rfl] at hx282_0); (try rw [show 0 * 3 = 0 from rfl] at hx282_0); (try rw [Addr.add_zero'] at hx282_0); (try rw [show ((0 : Int)).toNat = 0 from rfl] at hx282_1); (try rw [show 0 * 3 = 0 from rfl] at hx282_1); (try rw [Addr.add_zero'] at hx282_1); (try rw [show ((0 : Int)).toNat = 0 from rfl] at hx282_2); (try rw [show 0 * 3 = 0 from rfl] at hx282_2); (try rw [Addr.add_zero'] at hx282_2); replace hx282_0 := (HB.out.cell (World.block_lt_of_cell? w _ hx282_0)).trans hx282_0; replace hx282_1 := (HB.out.cell (World.block_lt_of_cell? w _ hx282_1)).trans hx282_1; replace hx282_2 := (HB.out.cell (World.block_lt_of_cell? w _ hx282_2)).trans hx282_2; have HR282_1 := Aside0.mk hi282_1; have HC282_1 := Aside0.mk hl282_1; clear hi282_1 hl282_1; have HR282_2 := Aside0.mk hi282_2; have HC282_2 := Aside0.mk hl282_2; clear hi282_2 hl282_2; replace p282 := eq_true p282; replace q282 := eq_true q282) | (refine wpList_build_arr (k := .u16) (n := 64) (t := 50) rfl rfl (by kernel_rfl) ?_; (try simp only [Act.put, List.setIfInBounds_toArray, List.set_cons_zero, List.set_cons_succ])) | ((with_reducible refine gate_store (t := 50) (p := 4) rfl ?_); refine arrput_event (k := .u16) (n := 64) (ys := ([] : List Int)) rfl rfl rfl rfl rfl (by kernel_rfl) HO279.out ?_; intro w13 hp0_ hg hbl_; have hp_ : Kd.R (Kd.int .u16) 50 w13 w.heap.size (fun _ => True) (.slice (some ⟨goa280, 0, none⟩) 64 64) y283 := (by rw [Ny283.out]; exact hp0_); have n0_ := Aside0.mk (hp_); have n1_ := Aside0.mk (hbl_ _ _ HB.out GBa280.out); clear HO279; clear HB; have HO279 := n0_; have HB := n1_; clear n0_ n1_; clear hg hp_ hp0_ hbl_))
    refine bodyPost_ret (results_ct rfl _ _ goa280 50 (arrV .u16 64 y283) (0, 0) _ rfl (by exact (R_arr_heap (k := .u16) (by (with_reducible repeat (first | apply Kd.R_alloc | apply Kd.R_drewN | apply Kd.R_drew)); exact HO279.out)).1) Try.underlying50 rfl (by kernel_rfl)) rfl ?_
    exact ⟨by first | rfl | (simp [errW_none, errW_some] <;> rfl) | (simp [*, errW_none, errW_some] <;> rfl), by repeat (first | (with_reducible first | exact HB.out | apply below_alloc | apply pw_below_drewN | apply below_drew1) | exact HB.out)⟩
   ·rw [if_neg c9] at H
    have c9b0 : decide ((((rd_T57 l0 0).f2).length : Int) ≤ a1) = false := decide_eq_false c9
    clear c9
    by_cases c14 : 0 ≤ a1
    ·rw [if_pos c14] at H
     have c14b0 : decide (0 ≤ a1) = true := decide_eq_true c14
     clear c14
     by_cases c15 : a1 < (((rd_T57 l0 0).f2).length : Int)
     ·rw [if_pos c15] at H
      have c15b0 : decide (a1 < (((rd_T57 l0 0).f2).length : Int)) = true := decide_eq_true c15
      clear c15
      obtain ⟨y286, hy286⟩ : ∃ y_ : List Int, y_ = (arrPut 64 y277 (rd_L4 ((rd_T57 l0 0).f2) a1)) := ⟨_, rfl⟩
      replace H : (some (y286, true)) = some (r1, r2) := by first | (rw [hy286]; with_reducible exact H) | (have H2_ := (Option.bind_some _ _).symm.trans H; rw [hy286]; with_reducible exact H2_) | (have H2_ := (Option.bind_some _ _).symm.trans H; with_reducible exact H2_) | with_reducible exact H | (rw [hy286]; exact H) | exact H
      have Ny286 := Aside0.mk hy286
      clear hy286
      simp only [Option.some.injEq, Prod.mk.injEq] at H
      obtain ⟨rfl, rfl⟩ := H
      go_enter Try.func22, Try.ntmps22
      go_wp2_with (first | ((with_reducible refine gate_dst (N := 4) rfl ?_); (try (refine gate_guard (by rfl) ?_; dsimp only)); refine arrvar_event (k := .u16) (n := 64) (t := 50) rfl (N := 4) rfl rfl (by kernel_rfl) (by decide) (Below.refl _ _) ?_; intro goa280 w16 ho17 hb hg_ gb_; have GBa280 := Aside0.mk (Nat.le_trans (below_size (by repeat (first | (with_reducible first | exact HB.out | apply below_alloc | apply pw_below_drewN | apply below_drew1) | exact HB.out))) gb_); clear hg_ gb_; (first | rw [← Ny277.out] at ho17 | (simp only [Int.reduceToNat] at ho17; rw [← Ny277.out] at ho17)); have n0_ := Aside0.mk (Kd.R_lower ho17 (below_size (by repeat (first | (with_reducible first | exact HB.out | apply below_alloc | apply pw_below_drewN | apply below_drew1) | exact HB.out)))); have n1_ := Aside0.mk (below_step (by repeat (first | (with_reducible first | exact HB.out | apply below_alloc | apply pw_below_drewN | apply below_drew1) | exact HB.out)) hb); clear HB; have HO279 := n0_; have HB := n1_; clear n0_ n1_; clear hb ho17; have p282 : 0 ≤ (0 : Int) := (by omega); have q282 : 0 < (l0.length : Int) := of_decide_eq_true (by first | (with_reducible assumption) | assumption); obtain ⟨ad282, A282_1, c282_1, A282_2, c282_2, e282, hx282_0, hx282_1, hx282_2, hl282_1, hi282_1, hl282_2, hi282_2⟩ := at_T57 (Kd.PC_C HR0.out) 0 p282 q282; cases e282; have qi282 : (0 < l0.length) = True := eq_true (by omega); (try rw [show ((0 : Int)).toNat = 0 from rfl] at hx282_0); (try rw [show 0 * 3 = 0 from rfl] at hx282_0); (try rw [Addr.add_zero'] at hx282_0); (try rw [show ((0 : Int)).toNat = 0 from rfl] at hx282_1); (try rw [show 0 * 3 = 0 from rfl] at hx282_1); (try rw [Addr.add_zero'] at hx282_1); (try rw [show ((0 : Int)).toNat = 0 from rfl] at hx282_2); (try rw [show 0 * 3 = 0 from rfl] at hx282_2); (try rw [Addr.add_zero'] at hx282_2); replace hx282_0 := (HB.out.cell (World.block_lt_of_cell? w _ hx282_0)).trans hx282_0; replace hx282_1 := (HB.out.cell (World.block_lt_of_cell? w _ hx282_1)).trans hx282_1; replace hx282_2 := (HB.out.cell (World.block_lt_of_cell? w _ hx282_2)).trans hx282_2; have HR282_1 := Aside0.mk hi282_1; have HC282_1 := Aside0.mk hl282_1; clear hi282_1 hl282_1; have HR282_2 := Aside0.mk hi282_2; have HC282_2 := Aside0.mk hl282_2; clear hi282_2 hl282_2; replace p282 := eq_true p282; replace q282 := eq_true q282; have p284 : 0 ≤ (0 : Int) := (by omega); have q284 : 0 < (l0.length : Int) := of_decide_eq_true (by first | (with_reducible assumption) | assumption); obtain ⟨ad284, A284_1, c284_1, A284_2, c284_2, e284, hx284_0, hx284_1, hx284_2, hl284_1, hi284_1, hl284_2, hi284_2⟩ := at_T57 (Kd.PC_C HR0.out) 0 p284 q284; obtain rfl : ad282 = ad284 := (by injection e284); have qi284 : (0 < l0.length) = True := eq_true (by omega); (try rw [show ((0 : Int)).toNat = 0 from rfl] at hx284_0); (try rw [show 0 * 3 = 0 from rfl] at hx284_0); (try rw [Addr.add_zero'] at hx284_0); (try rw [show ((0 : Int)).toNat = 0 from rfl] at hx284_1); (try rw [show 0 * 3 = 0 from rfl] at hx284_1); (try rw [Addr.add_zero'] at hx284_1); (try rw [show ((0 : Int)).toNat = 0 from rfl] at hx284_2); (try rw [show 0 * 3 = 0 from rfl] at hx284_2); (try rw [Addr.add_zero'] at hx284_2); replace hx284_0 := (HB.out.cell (World.block_lt_of_cell? w _ hx284_0)).trans hx284_0; replace hx284_1 := (HB.out.cell (World.block_lt_of_cell? w _ hx284_1)).trans hx284_1; replace hx284_2 := (HB.out.cell (World.block_lt_of_cell? w _ hx284_2)).trans hx284_2; have HR284_1 := Aside0.mk hi284_1; have HC284_1 := Aside0.mk hl284_1; clear hi284_1 hl284_1; have HR284_2 := Aside0.mk hi284_2; have HC284_2 := Aside0.mk hl284_2; clear hi284_2 hl284_2; replace p284 := eq_true p284; replace q284 := eq_true q284; have ea_ := Option.some.inj (hx282_1.symm.trans hx284_1); injection ea_ with ea_ en_ ec_; subst ea_; subst ec_; clear en_; have ea_ := Option.some.inj (hx282_2.symm.trans hx284_2); injection ea_ with ea_ en_ ec_; subst ea_; subst ec_; clear en_; have p285 : 0 ≤ (a1 : Int) := of_decide_eq_true (by first | (with_reducible assumption) | assumption); have q285 : a1 < (((rd_T57 l0 0).f2).length : Int) := of_decide_eq_true (by first | (with_reducible assumption) | assumption); obtain ⟨ad285, e285, hx285_0⟩ := at_L4 HR284_2.out a1 p285 q285; cases e285; replace hx285_0 := ArrAt_below HB.out hx285_0; replace p285 := eq_true p285; replace q285 := eq_true q285) | ((refine wpList_load_arr rfl _ rfl rfl hx285_0 Try.underlying50 (by kernel_rfl) ?_); (try simp only [Act.put, List.setIfInBounds_toArray, List.set_cons_zero, List.set_cons_succ])) | ((with_reducible refine gate_store (t := 50) (p := 4) rfl ?_); refine arrput_event (k := .u16) (n := 64) (ys := (rd_L4 ((rd_T57 l0 0).f2) a1)) rfl rfl rfl rfl rfl (by kernel_rfl) HO279.out ?_; intro w19 hp0_ hg hbl_; have hp_ : Kd.R (Kd.int .u16) 50 w19 w.heap.size (fun _ => True) (.slice (some ⟨goa280, 0, none⟩) 64 64) y286 := (by rw [Ny286.out]; exact hp0_); have n0_ := Aside0.mk (hp_); have n1_ := Aside0.mk (hbl_ _ _ HB.out GBa280.out); clear HO279; clear HB; have HO279 := n0_; have HB := n1_; clear n0_ n1_; clear hg hp_ hp0_ hbl_))
      refine bodyPost_ret (results_ct rfl _ _ goa280 50 (arrV .u16 64 y286) (0, 0) _ rfl (by exact (R_arr_heap (k := .u16) (by (with_reducible repeat (first | apply Kd.R_alloc | apply Kd.R_drewN | apply Kd.R_drew)); exact HO279.out)).1) Try.underlying50 rfl (by kernel_rfl)) rfl ?_
      exact ⟨by first | rfl | (simp [errW_none, errW_some] <;> rfl) | (simp [*, errW_none, errW_some] <;> rfl), by repeat (first | (with_reducible first | exact HB.out | apply below_alloc | apply pw_below_drewN | apply below_drew1) | exact HB.out)⟩
     ·rw [if_neg c15] at H
      exact absurd H (by simp)
    ·rw [if_neg c14] at H
     exact absurd H (by simp)
  ·rw [if_neg c8] at H
   exact absurd H (by simp)

end Go.Proofs.Ytiaodapgankjnaa.Q
