-- Written by wip/tools/pr.py of this session over the kit's print (widened); the words are the kit's print's own. Not trusted: Lean checks it.
import Derived.Test.YtiaodapgankjnaaQx0
namespace Go.Proofs.Ytiaodapgankjnaa.Q
open Go.RowKit Go.Proofs.YtiaodapgankjnaaW.PrintWords Go.Proofs.YtiaodapgankjnaaW.PrintLast Go.Proofs.YtiaodapgankjnaaW.PrintMore
attribute [local go_sem] max2_int min2_int max_two min_two max_three min_three max_four min_four   -- for this text's walks alone
set_option linter.unusedVariables false
set_option linter.unusedSimpArgs false

/-! ### endonymlaw4_few: function 8 -/
def endonymlaw4_few.f (l0 : List (S35)) : Option ((List (S35)) × (List (S35))) := if 0 ≤ (mn (l0.length : Int) 200) then (if (mn (l0.length : Int) 200) ≤ (l0.length : Int) then ((some (l0.take ((mn (l0.length : Int) 200) : Int).toNat : List (S35))).bind fun y101 => (if ([] : List (S35)).length + y101.length < 5864062014805 then ((some (([] : List (S35)) ++ y101 : List (S35))).bind fun y105 => ((some (([(⟨(-7), 0, 0⟩ : S35), (⟨(-8), 0, 0⟩ : S35)] : List (S35)) : List (S35))).bind fun y115 => (if y105.length + y115.length < 5864062014805 then ((some (y105 ++ y115 : List (S35))).bind fun y118 => (if (mn (l0.length : Int) 200) ≤ (y118.length : Int) then (some ((y118.take ((mn (l0.length : Int) 200) : Int).toNat), (([] : List (S35)) ++ y101))) else (none))) else (none)))) else (none))) else (none)) else (none)
set_option maxHeartbeats 8000000 in
set_option maxRecDepth 100000 in
theorem endonymlaw4_few.calls (A0 : Option Addr) (c0 : Nat) (l0 : List (S35)) (r1 : List (S35)) (r2 : List (S35)) (w : World) (hr0 : Kd.C k35 w A0 l0.length l0) (hc0 : l0.length ≤ c0) (h : endonymlaw4_few.f l0 = some (r1, r2)) :
  Calls Try.prog 8 #[.slice A0 l0.length c0] w fun e w' => ∃ v0_ v1_ : Value, e = .returned (.tuple #[v0_, v1_]) ∧ Kd.R k35 35 w' w.heap.size (fun k_ => some k_ ≠ (v1_ : Value).ownBlock) v0_ r1 ∧ Kd.R k35 35 w' w.heap.size (fun k_ => some k_ ≠ (v0_ : Value).ownBlock) v1_ r2 ∧ Below w.heap.size w w' := by
 have hu35 := Try.underlying35
 have HR0 := Aside0.mk hr0
 have HC0 := Aside0.mk hc0
 clear hr0 hc0
 have HB := Aside0.mk (Below.refl w.heap.size w)
 have H : (if 0 ≤ (mn (l0.length : Int) 200) then (if (mn (l0.length : Int) 200) ≤ (l0.length : Int) then ((some (l0.take ((mn (l0.length : Int) 200) : Int).toNat : List (S35))).bind fun y101 => (if ([] : List (S35)).length + y101.length < 5864062014805 then ((some (([] : List (S35)) ++ y101 : List (S35))).bind fun y105 => ((some (([(⟨(-7), 0, 0⟩ : S35), (⟨(-8), 0, 0⟩ : S35)] : List (S35)) : List (S35))).bind fun y115 => (if y105.length + y115.length < 5864062014805 then ((some (y105 ++ y115 : List (S35))).bind fun y118 => (if (mn (l0.length : Int) 200) ≤ (y118.length : Int) then (some ((y118.take ((mn (l0.length : Int) 200) : Int).toNat), (([] : List (S35)) ++ y101))) else (none))) else (none)))) else (none))) else (none)) else (none)) = some (r1, r2) := h
 clear h
 obtain ⟨ji2, hji2⟩ : ∃ j_ : Int, (mn (l0.length : Int) 200) = j_ := ⟨_, rfl⟩
 replace H : (if 0 ≤ (ji2) then (if (ji2) ≤ (l0.length : Int) then ((some (l0.take ((ji2) : Int).toNat : List (S35))).bind fun y101 => (if ([] : List (S35)).length + y101.length < 5864062014805 then ((some (([] : List (S35)) ++ y101 : List (S35))).bind fun y105 => ((some (([(⟨(-7), 0, 0⟩ : S35), (⟨(-8), 0, 0⟩ : S35)] : List (S35)) : List (S35))).bind fun y115 => (if y105.length + y115.length < 5864062014805 then ((some (y105 ++ y115 : List (S35))).bind fun y118 => (if (ji2) ≤ (y118.length : Int) then (some ((y118.take ((ji2) : Int).toNat), (([] : List (S35)) ++ y101))) else (none))) else (none)))) else (none))) else (none)) else (none)) = some (r1, r2) := by first | (rw [hji2] at H; exact H) | (simp only [hji2] at H ⊢; exact H)
 (try (have hji2h : ji2 ≤ 200 := by (rw [← hji2]; unfold mn; (repeat' split) <;> omega)))
 (try (have hji2g : ji2 ≤ 64 := by omega))
 (try (have hji2l : 0 ≤ ji2 := by (rw [← hji2]; unfold mn; (repeat' split) <;> omega)))
 (try (have hji2m : 0 ≤ ji2 := by omega))
 have hji2_ : (if 200 < (l0.length : Int) then 200 else (l0.length : Int)) = ji2 := hji2
 by_cases c3 : 0 ≤ (ji2)
 ·rw [if_pos c3] at H
  have c3b0 := eq_true c3
  have c3b1 : decide (0 ≤ (ji2)) = true := decide_eq_true c3
  clear c3
  by_cases c4 : (ji2) ≤ (l0.length : Int)
  ·rw [if_pos c4] at H
   have c4b0 := eq_true c4
   have c4b1 : decide ((ji2) ≤ (l0.length : Int)) = true := decide_eq_true c4
   clear c4
   obtain ⟨y101, hy101⟩ : ∃ y_ : List (S35), y_ = (l0.take ((ji2) : Int).toNat) := ⟨_, rfl⟩
   replace H : (if ([] : List (S35)).length + y101.length < 5864062014805 then ((some (([] : List (S35)) ++ y101 : List (S35))).bind fun y105 => ((some (([(⟨(-7), 0, 0⟩ : S35), (⟨(-8), 0, 0⟩ : S35)] : List (S35)) : List (S35))).bind fun y115 => (if y105.length + y115.length < 5864062014805 then ((some (y105 ++ y115 : List (S35))).bind fun y118 => (if (ji2) ≤ (y118.length : Int) then (some ((y118.take ((ji2) : Int).toNat), (([] : List (S35)) ++ y101))) else (none))) else (none)))) else (none)) = some (r1, r2) := by first | (rw [hy101]; with_reducible exact H) | (have H2_ := (Option.bind_some _ _).symm.trans H; rw [hy101]; with_reducible exact H2_) | (have H2_ := (Option.bind_some _ _).symm.trans H; with_reducible exact H2_) | with_reducible exact H | (rw [hy101]; exact H) | exact H
   have Ny101 := Aside0.mk hy101
   clear hy101
   by_cases c5 : ([] : List (S35)).length + y101.length < 5864062014805
   ·rw [if_pos c5] at H
    have LMc5 := Aside0.mk c5
    clear c5
    obtain ⟨y105, hy105⟩ : ∃ y_ : List (S35), y_ = (([] : List (S35)) ++ y101) := ⟨_, rfl⟩
    replace H : ((some (([(⟨(-7), 0, 0⟩ : S35), (⟨(-8), 0, 0⟩ : S35)] : List (S35)) : List (S35))).bind fun y115 => (if y105.length + y115.length < 5864062014805 then ((some (y105 ++ y115 : List (S35))).bind fun y118 => (if (ji2) ≤ (y118.length : Int) then (some ((y118.take ((ji2) : Int).toNat), (([] : List (S35)) ++ y101))) else (none))) else (none))) = some (r1, r2) := by first | (rw [hy105]; with_reducible exact H) | (have H2_ := (Option.bind_some _ _).symm.trans H; rw [hy105]; with_reducible exact H2_) | (have H2_ := (Option.bind_some _ _).symm.trans H; with_reducible exact H2_) | with_reducible exact H | (rw [hy105]; exact H) | exact H
    have Ny105 := Aside0.mk hy105
    clear hy105
    obtain ⟨y112, hy112⟩ : ∃ y_ : List (S35), y_ = (([] : List (S35)) ++ y101) := ⟨_, rfl⟩
    replace H : ((some (([(⟨(-7), 0, 0⟩ : S35), (⟨(-8), 0, 0⟩ : S35)] : List (S35)) : List (S35))).bind fun y115 => (if y105.length + y115.length < 5864062014805 then ((some (y105 ++ y115 : List (S35))).bind fun y118 => (if (ji2) ≤ (y118.length : Int) then (some ((y118.take ((ji2) : Int).toNat), y112)) else (none))) else (none))) = some (r1, r2) := by first | (rw [hy112]; with_reducible exact H) | (have H2_ := (Option.bind_some _ _).symm.trans H; rw [hy112]; with_reducible exact H2_) | (have H2_ := (Option.bind_some _ _).symm.trans H; with_reducible exact H2_) | with_reducible exact H | (rw [hy112]; exact H) | exact H
    have Ny112 := Aside0.mk hy112
    clear hy112
    obtain ⟨y115, hy115⟩ : ∃ y_ : List (S35), y_ = (([(⟨(-7), 0, 0⟩ : S35), (⟨(-8), 0, 0⟩ : S35)] : List (S35))) := ⟨_, rfl⟩
    replace H : (if y105.length + y115.length < 5864062014805 then ((some (y105 ++ y115 : List (S35))).bind fun y118 => (if (ji2) ≤ (y118.length : Int) then (some ((y118.take ((ji2) : Int).toNat), y112)) else (none))) else (none)) = some (r1, r2) := by first | (rw [hy115]; with_reducible exact H) | (have H2_ := (Option.bind_some _ _).symm.trans H; rw [hy115]; with_reducible exact H2_) | (have H2_ := (Option.bind_some _ _).symm.trans H; with_reducible exact H2_) | with_reducible exact H | (rw [hy115]; exact H) | exact H
    have Ny115 := Aside0.mk hy115
    clear hy115
    by_cases c6 : y105.length + y115.length < 5864062014805
    ·rw [if_pos c6] at H
     have LMc6 := Aside0.mk c6
     clear c6
     obtain ⟨y118, hy118⟩ : ∃ y_ : List (S35), y_ = (y105 ++ y115) := ⟨_, rfl⟩
     replace H : (if (ji2) ≤ (y118.length : Int) then (some ((y118.take ((ji2) : Int).toNat), y112)) else (none)) = some (r1, r2) := by first | (rw [hy118]; with_reducible exact H) | (have H2_ := (Option.bind_some _ _).symm.trans H; rw [hy118]; with_reducible exact H2_) | (have H2_ := (Option.bind_some _ _).symm.trans H; with_reducible exact H2_) | with_reducible exact H | (rw [hy118]; exact H) | exact H
     have Ny118 := Aside0.mk hy118
     clear hy118
     by_cases c7 : (ji2) ≤ (y118.length : Int)
     ·rw [if_pos c7] at H
      have c7b0 := eq_true c7
      have c7b1 : decide ((ji2) ≤ (y118.length : Int)) = true := decide_eq_true c7
      clear c7
      obtain ⟨y121, hy121⟩ : ∃ y_ : List (S35), y_ = (y118.take ((ji2) : Int).toNat) := ⟨_, rfl⟩
      replace H : (some (y121, y112)) = some (r1, r2) := by first | (rw [hy121]; with_reducible exact H) | (have H2_ := (Option.bind_some _ _).symm.trans H; rw [hy121]; with_reducible exact H2_) | (have H2_ := (Option.bind_some _ _).symm.trans H; with_reducible exact H2_) | with_reducible exact H | (rw [hy121]; exact H) | exact H
      have Ny121 := Aside0.mk hy121
      clear hy121
      simp only [Option.some.injEq, Prod.mk.injEq] at H
      obtain ⟨rfl, rfl⟩ := H
      have q8 : ((ji2) : Int) ≤ ((l0.length : Int) : Int) := of_decide_eq_true (by first | (with_reducible assumption) | assumption)
      obtain ⟨i08, hi08, _, hsz8, _⟩ := info_parts info35
      have hroom8 : l0.length ≤ c0 := HC0.out
      have hC8 : Kd.C k35 _ A0 l0.length l0 := HR0.out
      have hcut8 := cut_to (P := Try.prog) 22 35 .i64 Try.underlying22 hi08 A0 l0.length c0 (ji2) (of_decide_eq_true (by first | (with_reducible assumption) | assumption)) q8 hroom8
      have hr8 := Kd.C_take (m := ((ji2) : Int).toNat) hC8 (by omega)
      have hy8 : y101.length = ((ji2) : Int).toNat := (by rw [Ny101.out, List.length_take]; omega)
      rw [← Ny101.out] at hr8
      rw [← hy8] at hcut8
      have HR104 := Aside0.mk hr8
      have HC104 := Aside0.mk (show y101.length ≤ c0 from by omega)
      clear hr8 hC8 hroom8 hi08 hsz8
      have KY8 := Aside0.mk hy8
      clear hy8
      replace q8 := eq_true q8
      go_enter Try.func8, Try.ntmps8
      go_wp2_with (first | ((with_reducible refine gate_builtin (b := .append) (xs := #[.tmp 10, .tmp 13]) rfl ?_); at_builtin; refine Kd.R_append_rows k35 (w0 := w) w.heap.size rfl (.tmp 10) (.tmp 13) 22 35 (.agg #[(.int .i64 0), (.int .i64 0), (.int .i64 0)]) 24 rfl Try.underlying22 info35 rfl (by decide) (by omega) (.slice none 0 0) ([] : List (S35)) y101 _ _ _ (fun _ => True) (fun _ => False) rfl rfl ?aO ?aR (fun _ _ h => h) (fun _ h => h.elim) ?aF ?aB ?aS ?aL ?_; (case aR => repeat (first | exact HR104.out | (with_reducible refine Kd.C_alloc ?_ _) | (with_reducible refine Kd.C_drewN ?_ _) | (with_reducible refine Kd.C_drew ?_))); (case aB => exact (by repeat (first | (with_reducible first | exact HB.out | apply below_alloc | apply pw_below_drewN | apply below_drew1) | exact HB.out))); (case aF => exact (fun _ _ => trivial)); (case aO => exact ((Kd.R_nil _ _ _ _ (fun _ => True)))); (case aS => exact (below_size (by repeat (first | (with_reducible first | exact HB.out | apply below_alloc | apply pw_below_drewN | apply below_drew1) | exact HB.out)))); (case aL => have := LMc5.out; omega); intro v106 w9 ho hb hg hat; rw [← Ny105.out] at ho; have n0_ := Aside0.mk (hb); have n1_ := Aside0.mk (ho); clear HB; have HB := n0_; have HO107 := n1_; clear n0_ n1_; clear ho hb hg hat) | ((with_reducible refine gate_builtin (b := .append) (xs := #[.tmp 15, .tmp 18]) rfl ?_); at_builtin; refine Kd.R_append_rows k35 (w0 := w) w.heap.size rfl (.tmp 15) (.tmp 18) 22 35 (.agg #[(.int .i64 0), (.int .i64 0), (.int .i64 0)]) 24 rfl Try.underlying22 info35 rfl (by decide) (by omega) (.slice none 0 0) ([] : List (S35)) y101 _ _ _ (fun k_ => some k_ ≠ (v106 : Value).ownBlock) (fun _ => False) rfl rfl ?aO ?aR (fun _ _ h => h) (fun _ h => h.elim) ?aF ?aB ?aS ?aL ?_; (case aR => repeat (first | exact (Kd.C_below HR104.out HB.out) | (with_reducible refine Kd.C_alloc ?_ _) | (with_reducible refine Kd.C_drewN ?_ _) | (with_reducible refine Kd.C_drew ?_))); (case aB => exact (by repeat (first | (with_reducible first | exact HB.out | apply below_alloc | apply pw_below_drewN | apply below_drew1) | exact HB.out))); (case aF => exact (fun k_ hk => Kd.fresh' (Kd.R_lt (by (with_reducible repeat (first | apply Kd.R_alloc | apply Kd.R_drewN | apply Kd.R_drew)); exact HO107.out)) k_ hk)); (case aO => exact ((Kd.R_nil _ _ _ _ (fun k_ => some k_ ≠ (v106 : Value).ownBlock)))); (case aS => exact (below_size (by repeat (first | (with_reducible first | exact HB.out | apply below_alloc | apply pw_below_drewN | apply below_drew1) | exact HB.out)))); (case aL => have := LMc5.out; omega); intro v113 w10 ho hb hg hat; rw [← Ny112.out] at ho; have n0_ := Aside0.mk (Kd.R_after (Kd.R_apart_nil (by (with_reducible repeat (first | apply Kd.R_alloc | apply Kd.R_drewN | apply Kd.R_drew)); exact HO107.out)) hg hat); have n1_ := Aside0.mk (hb); have n2_ := Aside0.mk (ho); clear HO107; clear HB; have HO107 := n0_; have HB := n1_; have HO114 := n2_; clear n0_ n1_ n2_; clear ho hb hg hat) | ((with_reducible refine gate_dst (N := 23) rfl ?_); refine Kd.R_lit k35 _ 35 ?hg (N := 23) ?hd (xs := ([(⟨(-7), 0, 0⟩ : S35), (⟨(-8), 0, 0⟩ : S35)] : List (S35))) (inner := [.int .i64 (-7), .int .i64 0, .int .i64 0, .int .i64 (-8), .int .i64 0, .int .i64 0]) (ok := fun _ => True) (okp := fun _ => True) ?hr ?hp (fun _ hk => hk) trivial (Below.refl _ _) (Nat.le_refl _) (by simp) ?_; (case hd => rfl); (case hg => rfl); (case hr => first | (go_simp; done) | (go_simp; rfl)); (case hp => exact (Reps.c3 (show Kd.M k35 _ _ _ (⟨(-7), 0, 0⟩ : S35) [.int .i64 (-7), .int .i64 0, .int .i64 0] from (k35_mkM _ _ _ (⟨(-7), 0, 0⟩ : S35) )) (Reps.c3 (show Kd.M k35 _ _ _ (⟨(-8), 0, 0⟩ : S35) [.int .i64 (-8), .int .i64 0, .int .i64 0] from (k35_mkM _ _ _ (⟨(-8), 0, 0⟩ : S35) )) (Reps.none _ _)))); intro v116 w11 ho12 hb hg_ hnew_; clear hg_ hnew_; (first | rw [← Ny115.out] at ho12 | (simp only [Int.reduceToNat] at ho12; rw [← Ny115.out] at ho12)); have n0_ := Aside0.mk (Kd.R_elder' (by (with_reducible repeat (first | apply Kd.R_alloc | apply Kd.R_drewN | apply Kd.R_drew)); first | exact HO107.out | exact Kd.R_mono HO107.out (fun _ hk => ⟨trivial, (by first | exact hk.2 | exact fun e_ => hk.2 (e_.trans (own_len _ _ _ _ _)))⟩)) (Kd.R_base ho12) hb); have n1_ := Aside0.mk (Kd.R_elder' (by (with_reducible repeat (first | apply Kd.R_alloc | apply Kd.R_drewN | apply Kd.R_drew)); first | exact HO114.out | exact Kd.R_mono HO114.out (fun _ hk => (by first | exact hk | exact fun e_ => hk (e_.trans (own_len _ _ _ _ _))))) (Kd.R_base ho12) hb); have n2_ := Aside0.mk (Kd.R_lower (Kd.R_new' (Kd.R_new' ho12 (Kd.R_lt (by (with_reducible repeat (first | apply Kd.R_alloc | apply Kd.R_drewN | apply Kd.R_drew)); first | exact HO107.out | exact Kd.R_mono HO107.out (fun _ hk => ⟨trivial, (by first | exact hk.2 | exact fun e_ => hk.2 (e_.trans (own_len _ _ _ _ _)))⟩)))) (Kd.R_lt (by (with_reducible repeat (first | apply Kd.R_alloc | apply Kd.R_drewN | apply Kd.R_drew)); first | exact HO114.out | exact Kd.R_mono HO114.out (fun _ hk => (by first | exact hk | exact fun e_ => hk (e_.trans (own_len _ _ _ _ _))))))) (below_size (by repeat (first | (with_reducible first | exact HB.out | apply below_alloc | apply pw_below_drewN | apply below_drew1) | exact HB.out)))); have n3_ := Aside0.mk (below_step (by repeat (first | (with_reducible first | exact HB.out | apply below_alloc | apply pw_below_drewN | apply below_drew1) | exact HB.out)) hb); clear HO107; clear HO114; clear HB; have HO107 := n0_; have HO114 := n1_; have HO117 := n2_; have HB := n3_; clear n0_ n1_ n2_ n3_; clear hb ho12; obtain ⟨Ao14, co14, eo14⟩ := Kd.R_slice HO117.out; subst eo14) | ((with_reducible refine gate_builtin (b := .append) (xs := #[.tmp 20, .tmp 23]) rfl ?_); at_builtin; refine Kd.R_append_rows k35 (w0 := w) w.heap.size rfl (.tmp 20) (.tmp 23) 22 35 (.agg #[(.int .i64 0), (.int .i64 0), (.int .i64 0)]) 24 rfl Try.underlying22 info35 rfl (by decide) (by omega) v106 y105 y115 _ _ _ (fun k_ => some k_ ≠ (v113 : Value).ownBlock ∧ some k_ ≠ (.slice Ao14 y115.length co14 : Value).ownBlock) (fun _ => False) rfl rfl ?aO ?aR (fun _ _ h => h) (fun _ h => h.elim) ?aF ?aB ?aS ?aL ?_; (case aR => repeat (first | exact (Kd.R_reads' HO117.out).2.2 | (with_reducible refine Kd.C_alloc ?_ _) | (with_reducible refine Kd.C_drewN ?_ _) | (with_reducible refine Kd.C_drew ?_))); (case aB => exact (by repeat (first | (with_reducible first | exact HB.out | apply below_alloc | apply pw_below_drewN | apply below_drew1) | exact HB.out))); (case aF => exact (fun k_ hk => ⟨Kd.fresh' (Kd.R_lt (by (with_reducible repeat (first | apply Kd.R_alloc | apply Kd.R_drewN | apply Kd.R_drew)); first | exact HO114.out | exact Kd.R_mono HO114.out (fun _ hk => ⟨(by first | exact hk.1 | exact fun e_ => hk.1 (e_.trans (own_len _ _ _ _ _))), (by first | exact hk.2 | exact fun e_ => hk.2 (e_.trans (own_len _ _ _ _ _)))⟩))) k_ hk, Kd.fresh' (Kd.R_lt (by (with_reducible repeat (first | apply Kd.R_alloc | apply Kd.R_drewN | apply Kd.R_drew)); first | exact HO117.out | exact Kd.R_mono HO117.out (fun _ hk => ⟨⟨trivial, (by first | exact hk.1.2 | exact fun e_ => hk.1.2 (e_.trans (own_len _ _ _ _ _)))⟩, (by first | exact hk.2 | exact fun e_ => hk.2 (e_.trans (own_len _ _ _ _ _)))⟩))) k_ hk⟩)); (case aO => exact (by (with_reducible repeat (first | apply Kd.R_alloc | apply Kd.R_drewN | apply Kd.R_drew)); first | exact Kd.R_mono HO107.out (fun _ hk => ⟨hk.1.2, hk.2⟩) | exact Kd.R_mono HO107.out (fun _ hk => ⟨(by first | exact hk.1.2 | exact fun e_ => hk.1.2 (e_.trans (own_len _ _ _ _ _))), (by first | exact hk.2 | exact fun e_ => hk.2 (e_.trans (own_len _ _ _ _ _)))⟩))); (case aS => exact (below_size (by repeat (first | (with_reducible first | exact HB.out | apply below_alloc | apply pw_below_drewN | apply below_drew1) | exact HB.out)))); (case aL => have := LMc6.out; omega); intro v119 w13 ho hb hg hat; rw [← Ny118.out] at ho; have n0_ := Aside0.mk (Kd.R_after (ok := (fun k_ => some k_ ≠ (.slice Ao14 y115.length co14 : Value).ownBlock)) (by (with_reducible repeat (first | apply Kd.R_alloc | apply Kd.R_drewN | apply Kd.R_drew)); first | exact Kd.R_mono HO114.out (fun _ hk => ⟨hk.2, hk.1⟩) | exact Kd.R_mono HO114.out (fun _ hk => ⟨(by first | exact hk.2 | exact fun e_ => hk.2 (e_.trans (own_len _ _ _ _ _))), (by first | exact hk.1 | exact fun e_ => hk.1 (e_.trans (own_len _ _ _ _ _)))⟩)) hg hat); have n1_ := Aside0.mk (Kd.R_after (ok := (fun k_ => some k_ ≠ (v113 : Value).ownBlock)) (by (with_reducible repeat (first | apply Kd.R_alloc | apply Kd.R_drewN | apply Kd.R_drew)); first | exact Kd.R_mono HO117.out (fun _ hk => ⟨hk.2, hk.1.2⟩) | exact Kd.R_mono HO117.out (fun _ hk => ⟨(by first | exact hk.2 | exact fun e_ => hk.2 (e_.trans (own_len _ _ _ _ _))), (by first | exact hk.1.2 | exact fun e_ => hk.1.2 (e_.trans (own_len _ _ _ _ _)))⟩)) hg hat); have n2_ := Aside0.mk (hb); have n3_ := Aside0.mk (ho); clear HO114; clear HO117; clear HB; clear HO107; have HO114 := n0_; have HO117 := n1_; have HB := n2_; have HO120 := n3_; clear n0_ n1_ n2_ n3_; clear ho hb hg hat; obtain ⟨Ao15, co15, eo15⟩ := Kd.R_slice HO120.out; subst eo15; have q16 : ((ji2) : Int) ≤ ((y118.length : Int) : Int) := of_decide_eq_true (by first | (with_reducible assumption) | assumption); obtain ⟨i016, hi016, _, hsz16, _⟩ := info_parts info35; have hcut16 := cut_to (P := Try.prog) 22 35 .i64 Try.underlying22 hi016 Ao15 y118.length co15 (ji2) (of_decide_eq_true (by first | (with_reducible assumption) | assumption)) q16 (Kd.R_reads' HO120.out).2.1; have hr16 := Kd.R_take (m := ((ji2) : Int).toNat) HO120.out (by omega); have hy16 : y121.length = ((ji2) : Int).toNat := (by rw [Ny121.out, List.length_take]; omega); rw [← Ny121.out] at hr16; rw [← hy16] at hr16 hcut16; clear hy16 hi016 hsz16 HO120; have HO123 := Aside0.mk hr16; clear hr16; replace q16 := eq_true q16))
      go_ret2
      exact ⟨_, _, by first | rfl | (simp [errW_none, errW_some] <;> rfl) | (simp only [← hji2]; first | rfl | (simp [errW_none, errW_some] <;> rfl)) | (simp [*, errW_none, errW_some] <;> rfl), by (with_reducible repeat (first | apply Kd.R_alloc | apply Kd.R_drewN | apply Kd.R_drew)); first | exact Kd.R_mono HO123.out (fun _ hk => hk.1) | exact Kd.R_mono HO123.out (fun _ hk => (by first | exact hk.1 | exact fun e_ => hk.1 (e_.trans (own_len _ _ _ _ _)))), by (with_reducible repeat (first | apply Kd.R_alloc | apply Kd.R_drewN | apply Kd.R_drew)); first | exact Kd.R_mono HO114.out (fun _ hk => hk.2) | exact Kd.R_mono HO114.out (fun _ hk => (by first | exact hk.2 | exact fun e_ => hk.2 (e_.trans (own_len _ _ _ _ _)))), by repeat (first | (with_reducible first | exact HB.out | apply below_alloc | apply pw_below_drewN | apply below_drew1) | exact HB.out)⟩
     ·rw [if_neg c7] at H
      exact absurd H (by simp)
    ·rw [if_neg c6] at H
     exact absurd H (by simp)
   ·rw [if_neg c5] at H
    exact absurd H (by simp)
  ·rw [if_neg c4] at H
   exact absurd H (by simp)
 ·rw [if_neg c3] at H
  exact absurd H (by simp)

end Go.Proofs.Ytiaodapgankjnaa.Q
