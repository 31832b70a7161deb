-- Written by wip/tools/pr.py of this session over the kit's print (widened); the words are the kit's print's own. Not trusted: Lean checks it.
import Derived.Test.YtiaodapgankjnaaQx0
namespace Go.Proofs.Ytiaodapgankjnaa.Q
open Go.RowKit Go.Proofs.YtiaodapgankjnaaW.PrintWords Go.Proofs.YtiaodapgankjnaaW.PrintLast Go.Proofs.YtiaodapgankjnaaW.PrintMore
attribute [local go_sem] max2_int min2_int max_two min_two max_three min_three max_four min_four   -- for this text's walks alone
set_option linter.unusedVariables false
set_option linter.unusedSimpArgs false

/-! ### endonymlaw4_few: function 8 (by hand) -/
/-- The two marks. -/
def MK4 : List S35 := [(⟨(-7), 0, 0⟩ : S35), (⟨(-8), 0, 0⟩ : S35)]
def endonymlaw4_few.f (l0 : List (S35)) : Option ((List (S35)) × (List (S35))) := if 0 ≤ (mn (l0.length : Int) 200) then (if (mn (l0.length : Int) 200) ≤ (l0.length : Int) then ((some (l0.take ((mn (l0.length : Int) 200) : Int).toNat : List (S35))).bind fun y101 => (if ([] : List (S35)).length + y101.length < 5864062014805 then ((some (([] : List (S35)) ++ y101 : List (S35))).bind fun y105 => ((some (([(⟨(-7), 0, 0⟩ : S35), (⟨(-8), 0, 0⟩ : S35)] : List (S35)) : List (S35))).bind fun y115 => (if y105.length + y115.length < 5864062014805 then ((some (y105 ++ y115 : List (S35))).bind fun y118 => (if (mn (l0.length : Int) 200) ≤ (y118.length : Int) then (some ((y118.take ((mn (l0.length : Int) 200) : Int).toNat), (([] : List (S35)) ++ y101))) else (none))) else (none)))) else (none))) else (none)) else (none)
set_option maxHeartbeats 8000000 in
set_option maxRecDepth 100000 in
theorem endonymlaw4_few.marks (A0 : Option Addr) (c0 : Nat) (l0 : List (S35)) (r1 : List (S35)) (r2 : List (S35)) (w : World) (hr0 : Kd.C k35 w A0 l0.length l0) (hc0 : l0.length ≤ c0) (h : endonymlaw4_few.f l0 = some (r1, r2)) :
  Calls Try.prog 8 #[.slice A0 l0.length c0] w fun e w' => ∃ v0_ v1_ : Value, e = .returned (.tuple #[v0_, v1_]) ∧ Kd.R k35 35 w' w.heap.size (fun k_ => some k_ ≠ (v1_ : Value).ownBlock) v0_ r1 ∧ Kd.R k35 35 w' w.heap.size (fun k_ => some k_ ≠ (v0_ : Value).ownBlock) v1_ r2 ∧ Below w.heap.size w w' ∧ ∃ (A_ : Option Addr) (c_ : Nat), v0_ = .slice A_ r1.length c_ ∧ Kd.C k35 w' A_ (r2 ++ MK4).length (r2 ++ MK4) ∧ (r2 ++ MK4).length ≤ c_ := by
 have hu35 := Try.underlying35
 have HR0 := Aside0.mk hr0
 have HC0 := Aside0.mk hc0
 clear hr0 hc0
 have HB := Aside0.mk (Below.refl w.heap.size w)
 have H : (if 0 ≤ (mn (l0.length : Int) 200) then (if (mn (l0.length : Int) 200) ≤ (l0.length : Int) then ((some (l0.take ((mn (l0.length : Int) 200) : Int).toNat : List (S35))).bind fun y101 => (if ([] : List (S35)).length + y101.length < 5864062014805 then ((some (([] : List (S35)) ++ y101 : List (S35))).bind fun y105 => ((some (([(⟨(-7), 0, 0⟩ : S35), (⟨(-8), 0, 0⟩ : S35)] : List (S35)) : List (S35))).bind fun y115 => (if y105.length + y115.length < 5864062014805 then ((some (y105 ++ y115 : List (S35))).bind fun y118 => (if (mn (l0.length : Int) 200) ≤ (y118.length : Int) then (some ((y118.take ((mn (l0.length : Int) 200) : Int).toNat), (([] : List (S35)) ++ y101))) else (none))) else (none)))) else (none))) else (none)) else (none)) = some (r1, r2) := h
 clear h
 obtain ⟨ji2, hji2⟩ : ∃ j_ : Int, (mn (l0.length : Int) 200) = j_ := ⟨_, rfl⟩
 replace H : (if 0 ≤ (ji2) then (if (ji2) ≤ (l0.length : Int) then ((some (l0.take ((ji2) : Int).toNat : List (S35))).bind fun y101 => (if ([] : List (S35)).length + y101.length < 5864062014805 then ((some (([] : List (S35)) ++ y101 : List (S35))).bind fun y105 => ((some (([(⟨(-7), 0, 0⟩ : S35), (⟨(-8), 0, 0⟩ : S35)] : List (S35)) : List (S35))).bind fun y115 => (if y105.length + y115.length < 5864062014805 then ((some (y105 ++ y115 : List (S35))).bind fun y118 => (if (ji2) ≤ (y118.length : Int) then (some ((y118.take ((ji2) : Int).toNat), (([] : List (S35)) ++ y101))) else (none))) else (none)))) else (none))) else (none)) else (none)) = some (r1, r2) := by first | (rw [hji2] at H; exact H) | (simp only [hji2] at H ⊢; exact H)
 (try (have hji2h : ji2 ≤ 200 := by (rw [← hji2]; unfold mn; (repeat' split) <;> omega)))
 (try (have hji2g : ji2 ≤ 64 := by omega))
 (try (have hji2l : 0 ≤ ji2 := by (rw [← hji2]; unfold mn; (repeat' split) <;> omega)))
 (try (have hji2m : 0 ≤ ji2 := by omega))
 have hji2_ : (if 200 < (l0.length : Int) then 200 else (l0.length : Int)) = ji2 := hji2
 by_cases c3 : 0 ≤ (ji2)
 ·rw [if_pos c3] at H
  have c3b0 := eq_true c3
  have c3b1 : decide (0 ≤ (ji2)) = true := decide_eq_true c3
  clear c3
  by_cases c4 : (ji2) ≤ (l0.length : Int)
  ·rw [if_pos c4] at H
   have c4b0 := eq_true c4
   have c4b1 : decide ((ji2) ≤ (l0.length : Int)) = true := decide_eq_true c4
   clear c4
   obtain ⟨y101, hy101⟩ : ∃ y_ : List (S35), y_ = (l0.take ((ji2) : Int).toNat) := ⟨_, rfl⟩
   replace H : (if ([] : List (S35)).length + y101.length < 5864062014805 then ((some (([] : List (S35)) ++ y101 : List (S35))).bind fun y105 => ((some (([(⟨(-7), 0, 0⟩ : S35), (⟨(-8), 0, 0⟩ : S35)] : List (S35)) : List (S35))).bind fun y115 => (if y105.length + y115.length < 5864062014805 then ((some (y105 ++ y115 : List (S35))).bind fun y118 => (if (ji2) ≤ (y118.length : Int) then (some ((y118.take ((ji2) : Int).toNat), (([] : List (S35)) ++ y101))) else (none))) else (none)))) else (none)) = some (r1, r2) := by first | (rw [hy101]; with_reducible exact H) | (have H2_ := (Option.bind_some _ _).symm.trans H; rw [hy101]; with_reducible exact H2_) | (have H2_ := (Option.bind_some _ _).symm.trans H; with_reducible exact H2_) | with_reducible exact H | (rw [hy101]; exact H) | exact H
   have Ny101 := Aside0.mk hy101
   clear hy101
   by_cases c5 : ([] : List (S35)).length + y101.length < 5864062014805
   ·rw [if_pos c5] at H
    have LMc5 := Aside0.mk c5
    clear c5
    obtain ⟨y105, hy105⟩ : ∃ y_ : List (S35), y_ = (([] : List (S35)) ++ y101) := ⟨_, rfl⟩
    replace H : ((some (([(⟨(-7), 0, 0⟩ : S35), (⟨(-8), 0, 0⟩ : S35)] : List (S35)) : List (S35))).bind fun y115 => (if y105.length + y115.length < 5864062014805 then ((some (y105 ++ y115 : List (S35))).bind fun y118 => (if (ji2) ≤ (y118.length : Int) then (some ((y118.take ((ji2) : Int).toNat), (([] : List (S35)) ++ y101))) else (none))) else (none))) = some (r1, r2) := by first | (rw [hy105]; with_reducible exact H) | (have H2_ := (Option.bind_some _ _).symm.trans H; rw [hy105]; with_reducible exact H2_) | (have H2_ := (Option.bind_some _ _).symm.trans H; with_reducible exact H2_) | with_reducible exact H | (rw [hy105]; exact H) | exact H
    have Ny105 := Aside0.mk hy105
    clear hy105
    obtain ⟨y112, hy112⟩ : ∃ y_ : List (S35), y_ = (([] : List (S35)) ++ y101) := ⟨_, rfl⟩
    replace H : ((some (([(⟨(-7), 0, 0⟩ : S35), (⟨(-8), 0, 0⟩ : S35)] : List (S35)) : List (S35))).bind fun y115 => (if y105.length + y115.length < 5864062014805 then ((some (y105 ++ y115 : List (S35))).bind fun y118 => (if (ji2) ≤ (y118.length : Int) then (some ((y118.take ((ji2) : Int).toNat), y112)) else (none))) else (none))) = some (r1, r2) := by first | (rw [hy112]; with_reducible exact H) | (have H2_ := (Option.bind_some _ _).symm.trans H; rw [hy112]; with_reducible exact H2_) | (have H2_ := (Option.bind_some _ _).symm.trans H; with_reducible exact H2_) | with_reducible exact H | (rw [hy112]; exact H) | exact H
    have Ny112 := Aside0.mk hy112
    clear hy112
    obtain ⟨y115, hy115⟩ : ∃ y_ : List (S35), y_ = (([(⟨(-7), 0, 0⟩ : S35), (⟨(-8), 0, 0⟩ : S35)] : List (S35))) := ⟨_, rfl⟩
    replace H : (if y105.length + y115.length < 5864062014805 then ((some (y105 ++ y115 : List (S35))).bind fun y118 => (if (ji2) ≤ (y118.length : Int) then (some ((y118.take ((ji2) : Int).toNat), y112)) else (none))) else (none)) = some (r1, r2) := by first | (rw [hy115]; with_reducible exact H) | (have H2_ := (Option.bind_some _ _).symm.trans H; rw [hy115]; with_reducible exact H2_) | (have H2_ := (Option.bind_some _ _).symm.trans H; with_reducible exact H2_) | with_reducible exact H | (rw [hy115]; exact H) | exact H
    have Ny115 := Aside0.mk hy115
    clear hy115
    by_cases c6 : y105.length + y115.length < 5864062014805
    ·rw [if_pos c6] at H
     have LMc6 := Aside0.mk c6
     clear c6
     obtain ⟨y118, hy118⟩ : ∃ y_ : List (S35), y_ = (y105 ++ y115) := ⟨_, rfl⟩
     replace H : (if (ji2) ≤ (y118.length : Int) then (some ((y118.take ((ji2) : Int).toNat), y112)) else (none)) = some (r1, r2) := by first | (rw [hy118]; with_reducible exact H) | (have H2_ := (Option.bind_some _ _).symm.trans H; rw [hy118]; with_reducible exact H2_) | (have H2_ := (Option.bind_some _ _).symm.trans H; with_reducible exact H2_) | with_reducible exact H | (rw [hy118]; exact H) | exact H
     have Ny118 := Aside0.mk hy118
     clear hy118
     by_cases c7 : (ji2) ≤ (y118.length : Int)
     ·rw [if_pos c7] at H
      have c7b0 := eq_true c7
      have c7b1 : decide ((ji2) ≤ (y118.length : Int)) = true := decide_eq_true c7
      clear c7
      obtain ⟨y121, hy121⟩ : ∃ y_ : List (S35), y_ = (y118.take ((ji2) : Int).toNat) := ⟨_, rfl⟩
      replace H : (some (y121, y112)) = some (r1, r2) := by first | (rw [hy121]; with_reducible exact H) | (have H2_ := (Option.bind_some _ _).symm.trans H; rw [hy121]; with_reducible exact H2_) | (have H2_ := (Option.bind_some _ _).symm.trans H; with_reducible exact H2_) | with_reducible exact H | (rw [hy121]; exact H) | exact H
      have Ny121 := Aside0.mk hy121
      clear hy121
      simp only [Option.some.injEq, Prod.mk.injEq] at H
      obtain ⟨rfl, rfl⟩ := H
      have q8 : ((ji2) : Int) ≤ ((l0.length : Int) : Int) := of_decide_eq_true (by first | (with_reducible assumption) | assumption)
      obtain ⟨i08, hi08, _, hsz8, _⟩ := info_parts info35
      have hroom8 : l0.length ≤ c0 := HC0.out
      have hC8 : Kd.C k35 _ A0 l0.length l0 := HR0.out
      have hcut8 := cut_to (P := Try.prog) 22 35 .i64 Try.underlying22 hi08 A0 l0.length c0 (ji2) (of_decide_eq_true (by first | (with_reducible assumption) | assumption)) q8 hroom8
      have hr8 := Kd.C_take (m := ((ji2) : Int).toNat) hC8 (by omega)
      have hy8 : y101.length = ((ji2) : Int).toNat := (by rw [Ny101.out, List.length_take]; omega)
      rw [← Ny101.out] at hr8
      rw [← hy8] at hcut8
      have HR104 := Aside0.mk hr8
      have HC104 := Aside0.mk (show y101.length ≤ c0 from by omega)
      clear hr8 hC8 hroom8 hi08 hsz8
      have KY8 := Aside0.mk hy8
      clear hy8
      replace q8 := eq_true q8
      go_enter Try.func8, Try.ntmps8
      go_wp2_with (first | ((with_reducible refine gate_builtin (b := .append) (xs := #[.tmp 10, .tmp 13]) rfl ?_); at_builtin; refine Kd.R_append_rows k35 (w0 := w) w.heap.size rfl (.tmp 10) (.tmp 13) 22 35 (.agg #[(.int .i64 0), (.int .i64 0), (.int .i64 0)]) 24 rfl Try.underlying22 info35 rfl (by decide) (by omega) (.slice none 0 0) ([] : List (S35)) y101 _ _ _ (fun _ => True) (fun _ => False) rfl rfl ?aO ?aR (fun _ _ h => h) (fun _ h => h.elim) ?aF ?aB ?aS ?aL ?_; (case aR => repeat (first | exact HR104.out | (with_reducible refine Kd.C_alloc ?_ _) | (with_reducible refine Kd.C_drewN ?_ _) | (with_reducible refine Kd.C_drew ?_))); (case aB => exact (by repeat (first | (with_reducible first | exact HB.out | apply below_alloc | apply pw_below_drewN | apply below_drew1) | exact HB.out))); (case aF => exact (fun _ _ => trivial)); (case aO => exact ((Kd.R_nil _ _ _ _ (fun _ => True)))); (case aS => exact (below_size (by repeat (first | (with_reducible first | exact HB.out | apply below_alloc | apply pw_below_drewN | apply below_drew1) | exact HB.out)))); (case aL => have := LMc5.out; omega); intro v106 w9 ho hb hg hat; rw [← Ny105.out] at ho; have n0_ := Aside0.mk (hb); have n1_ := Aside0.mk (ho); clear HB; have HB := n0_; have HO107 := n1_; clear n0_ n1_; clear ho hb hg hat) | ((with_reducible refine gate_builtin (b := .append) (xs := #[.tmp 15, .tmp 18]) rfl ?_); at_builtin; refine Kd.R_append_rows k35 (w0 := w) w.heap.size rfl (.tmp 15) (.tmp 18) 22 35 (.agg #[(.int .i64 0), (.int .i64 0), (.int .i64 0)]) 24 rfl Try.underlying22 info35 rfl (by decide) (by omega) (.slice none 0 0) ([] : List (S35)) y101 _ _ _ (fun k_ => some k_ ≠ (v106 : Value).ownBlock) (fun _ => False) rfl rfl ?aO ?aR (fun _ _ h => h) (fun _ h => h.elim) ?aF ?aB ?aS ?aL ?_; (case aR => repeat (first | exact (Kd.C_below HR104.out HB.out) | (with_reducible refine Kd.C_alloc ?_ _) | (with_reducible refine Kd.C_drewN ?_ _) | (with_reducible refine Kd.C_drew ?_))); (case aB => exact (by repeat (first | (with_reducible first | exact HB.out | apply below_alloc | apply pw_below_drewN | apply below_drew1) | exact HB.out))); (case aF => exact (fun k_ hk => Kd.fresh' (Kd.R_lt (by (with_reducible repeat (first | apply Kd.R_alloc | apply Kd.R_drewN | apply Kd.R_drew)); exact HO107.out)) k_ hk)); (case aO => exact ((Kd.R_nil _ _ _ _ (fun k_ => some k_ ≠ (v106 : Value).ownBlock)))); (case aS => exact (below_size (by repeat (first | (with_reducible first | exact HB.out | apply below_alloc | apply pw_below_drewN | apply below_drew1) | exact HB.out)))); (case aL => have := LMc5.out; omega); intro v113 w10 ho hb hg hat; rw [← Ny112.out] at ho; have n0_ := Aside0.mk (Kd.R_after (Kd.R_apart_nil (by (with_reducible repeat (first | apply Kd.R_alloc | apply Kd.R_drewN | apply Kd.R_drew)); exact HO107.out)) hg hat); have n1_ := Aside0.mk (hb); have n2_ := Aside0.mk (ho); clear HO107; clear HB; have HO107 := n0_; have HB := n1_; have HO114 := n2_; clear n0_ n1_ n2_; clear ho hb hg hat) | ((with_reducible refine gate_dst (N := 23) rfl ?_); refine Kd.R_lit k35 _ 35 ?hg (N := 23) ?hd (xs := ([(⟨(-7), 0, 0⟩ : S35), (⟨(-8), 0, 0⟩ : S35)] : List (S35))) (inner := [.int .i64 (-7), .int .i64 0, .int .i64 0, .int .i64 (-8), .int .i64 0, .int .i64 0]) (ok := fun _ => True) (okp := fun _ => True) ?hr ?hp (fun _ hk => hk) trivial (Below.refl _ _) (Nat.le_refl _) (by simp) ?_; (case hd => rfl); (case hg => rfl); (case hr => first | (go_simp; done) | (go_simp; rfl)); (case hp => exact (Reps.c3 (show Kd.M k35 _ _ _ (⟨(-7), 0, 0⟩ : S35) [.int .i64 (-7), .int .i64 0, .int .i64 0] from (k35_mkM _ _ _ (⟨(-7), 0, 0⟩ : S35) )) (Reps.c3 (show Kd.M k35 _ _ _ (⟨(-8), 0, 0⟩ : S35) [.int .i64 (-8), .int .i64 0, .int .i64 0] from (k35_mkM _ _ _ (⟨(-8), 0, 0⟩ : S35) )) (Reps.none _ _)))); intro v116 w11 ho12 hb hg_ hnew_; clear hg_ hnew_; (first | rw [← Ny115.out] at ho12 | (simp only [Int.reduceToNat] at ho12; rw [← Ny115.out] at ho12)); have n0_ := Aside0.mk (Kd.R_elder' (by (with_reducible repeat (first | apply Kd.R_alloc | apply Kd.R_drewN | apply Kd.R_drew)); first | exact HO107.out | exact Kd.R_mono HO107.out (fun _ hk => ⟨trivial, (by first | exact hk.2 | exact fun e_ => hk.2 (e_.trans (own_len _ _ _ _ _)))⟩)) (Kd.R_base ho12) hb); have n1_ := Aside0.mk (Kd.R_elder' (by (with_reducible repeat (first | apply Kd.R_alloc | apply Kd.R_drewN | apply Kd.R_drew)); first | exact HO114.out | exact Kd.R_mono HO114.out (fun _ hk => (by first | exact hk | exact fun e_ => hk (e_.trans (own_len _ _ _ _ _))))) (Kd.R_base ho12) hb); have n2_ := Aside0.mk (Kd.R_lower (Kd.R_new' (Kd.R_new' ho12 (Kd.R_lt (by (with_reducible repeat (first | apply Kd.R_alloc | apply Kd.R_drewN | apply Kd.R_drew)); first | exact HO107.out | exact Kd.R_mono HO107.out (fun _ hk => ⟨trivial, (by first | exact hk.2 | exact fun e_ => hk.2 (e_.trans (own_len _ _ _ _ _)))⟩)))) (Kd.R_lt (by (with_reducible repeat (first | apply Kd.R_alloc | apply Kd.R_drewN | apply Kd.R_drew)); first | exact HO114.out | exact Kd.R_mono HO114.out (fun _ hk => (by first | exact hk | exact fun e_ => hk (e_.trans (own_len _ _ _ _ _))))))) (below_size (by repeat (first | (with_reducible first | exact HB.out | apply below_alloc | apply pw_below_drewN | apply below_drew1) | exact HB.out)))); have n3_ := Aside0.mk (below_step (by repeat (first | (with_reducible first | exact HB.out | apply below_alloc | apply pw_below_drewN | apply below_drew1) | exact HB.out)) hb); clear HO107; clear HO114; clear HB; have HO107 := n0_; have HO114 := n1_; have HO117 := n2_; have HB := n3_; clear n0_ n1_ n2_ n3_; clear hb ho12; obtain ⟨Ao14, co14, eo14⟩ := Kd.R_slice HO117.out; subst eo14) | ((with_reducible refine gate_builtin (b := .append) (xs := #[.tmp 20, .tmp 23]) rfl ?_); at_builtin; refine Kd.R_append_rows k35 (w0 := w) w.heap.size rfl (.tmp 20) (.tmp 23) 22 35 (.agg #[(.int .i64 0), (.int .i64 0), (.int .i64 0)]) 24 rfl Try.underlying22 info35 rfl (by decide) (by omega) v106 y105 y115 _ _ _ (fun k_ => some k_ ≠ (v113 : Value).ownBlock ∧ some k_ ≠ (.slice Ao14 y115.length co14 : Value).ownBlock) (fun _ => False) rfl rfl ?aO ?aR (fun _ _ h => h) (fun _ h => h.elim) ?aF ?aB ?aS ?aL ?_; (case aR => repeat (first | exact (Kd.R_reads' HO117.out).2.2 | (with_reducible refine Kd.C_alloc ?_ _) | (with_reducible refine Kd.C_drewN ?_ _) | (with_reducible refine Kd.C_drew ?_))); (case aB => exact (by repeat (first | (with_reducible first | exact HB.out | apply below_alloc | apply pw_below_drewN | apply below_drew1) | exact HB.out))); (case aF => exact (fun k_ hk => ⟨Kd.fresh' (Kd.R_lt (by (with_reducible repeat (first | apply Kd.R_alloc | apply Kd.R_drewN | apply Kd.R_drew)); first | exact HO114.out | exact Kd.R_mono HO114.out (fun _ hk => ⟨(by first | exact hk.1 | exact fun e_ => hk.1 (e_.trans (own_len _ _ _ _ _))), (by first | exact hk.2 | exact fun e_ => hk.2 (e_.trans (own_len _ _ _ _ _)))⟩))) k_ hk, Kd.fresh' (Kd.R_lt (by (with_reducible repeat (first | apply Kd.R_alloc | apply Kd.R_drewN | apply Kd.R_drew)); first | exact HO117.out | exact Kd.R_mono HO117.out (fun _ hk => ⟨⟨trivial, (by first | exact hk.1.2 | exact fun e_ => hk.1.2 (e_.trans (own_len _ _ _ _ _)))⟩, (by first | exact hk.2 | exact fun e_ => hk.2 (e_.trans (own_len _ _ _ _ _)))⟩))) k_ hk⟩)); (case aO => exact (by (with_reducible repeat (first | apply Kd.R_alloc | apply Kd.R_drewN | apply Kd.R_drew)); first | exact Kd.R_mono HO107.out (fun _ hk => ⟨hk.1.2, hk.2⟩) | exact Kd.R_mono HO107.out (fun _ hk => ⟨(by first | exact hk.1.2 | exact fun e_ => hk.1.2 (e_.trans (own_len _ _ _ _ _))), (by first | exact hk.2 | exact fun e_ => hk.2 (e_.trans (own_len _ _ _ _ _)))⟩))); (case aS => exact (below_size (by repeat (first | (with_reducible first | exact HB.out | apply below_alloc | apply pw_below_drewN | apply below_drew1) | exact HB.out)))); (case aL => have := LMc6.out; omega); intro v119 w13 ho hb hg hat; rw [← Ny118.out] at ho; have n0_ := Aside0.mk (Kd.R_after (ok := (fun k_ => some k_ ≠ (.slice Ao14 y115.length co14 : Value).ownBlock)) (by (with_reducible repeat (first | apply Kd.R_alloc | apply Kd.R_drewN | apply Kd.R_drew)); first | exact Kd.R_mono HO114.out (fun _ hk => ⟨hk.2, hk.1⟩) | exact Kd.R_mono HO114.out (fun _ hk => ⟨(by first | exact hk.2 | exact fun e_ => hk.2 (e_.trans (own_len _ _ _ _ _))), (by first | exact hk.1 | exact fun e_ => hk.1 (e_.trans (own_len _ _ _ _ _)))⟩)) hg hat); have n1_ := Aside0.mk (Kd.R_after (ok := (fun k_ => some k_ ≠ (v113 : Value).ownBlock)) (by (with_reducible repeat (first | apply Kd.R_alloc | apply Kd.R_drewN | apply Kd.R_drew)); first | exact Kd.R_mono HO117.out (fun _ hk => ⟨hk.2, hk.1.2⟩) | exact Kd.R_mono HO117.out (fun _ hk => ⟨(by first | exact hk.2 | exact fun e_ => hk.2 (e_.trans (own_len _ _ _ _ _))), (by first | exact hk.1.2 | exact fun e_ => hk.1.2 (e_.trans (own_len _ _ _ _ _)))⟩)) hg hat); have n2_ := Aside0.mk (hb); have n3_ := Aside0.mk (ho); clear HO114; clear HO117; clear HB; clear HO107; have HO114 := n0_; have HO117 := n1_; have HB := n2_; have HO120 := n3_; clear n0_ n1_ n2_ n3_; clear ho hb hg hat; obtain ⟨Ao15, co15, eo15⟩ := Kd.R_slice HO120.out; subst eo15; have q16 : ((ji2) : Int) ≤ ((y118.length : Int) : Int) := of_decide_eq_true (by first | (with_reducible assumption) | assumption); obtain ⟨i016, hi016, _, hsz16, _⟩ := info_parts info35; have hcut16 := cut_to (P := Try.prog) 22 35 .i64 Try.underlying22 hi016 Ao15 y118.length co15 (ji2) (of_decide_eq_true (by first | (with_reducible assumption) | assumption)) q16 (Kd.R_reads' HO120.out).2.1; have hr16 := Kd.R_take (m := ((ji2) : Int).toNat) HO120.out (by omega); have hy16 : y121.length = ((ji2) : Int).toNat := (by rw [Ny121.out, List.length_take]; omega); rw [← Ny121.out] at hr16; rw [← hy16] at hr16 hcut16; have HMK := Aside0.mk (show Kd.C k35 _ Ao15 y118.length y118 ∧ y118.length ≤ co15 from ⟨(Kd.R_reads' HO120.out).2.2, (Kd.R_reads' HO120.out).2.1⟩); clear hy16 hi016 hsz16 HO120; have HO123 := Aside0.mk hr16; clear hr16; replace q16 := eq_true q16))
      go_ret2
      exact ⟨_, _, by first | rfl | (simp [errW_none, errW_some] <;> rfl) | (simp only [← hji2]; first | rfl | (simp [errW_none, errW_some] <;> rfl)) | (simp [*, errW_none, errW_some] <;> rfl), by (with_reducible repeat (first | apply Kd.R_alloc | apply Kd.R_drewN | apply Kd.R_drew)); first | exact Kd.R_mono HO123.out (fun _ hk => hk.1) | exact Kd.R_mono HO123.out (fun _ hk => (by first | exact hk.1 | exact fun e_ => hk.1 (e_.trans (own_len _ _ _ _ _)))), by (with_reducible repeat (first | apply Kd.R_alloc | apply Kd.R_drewN | apply Kd.R_drew)); first | exact Kd.R_mono HO114.out (fun _ hk => hk.2) | exact Kd.R_mono HO114.out (fun _ hk => (by first | exact hk.2 | exact fun e_ => hk.2 (e_.trans (own_len _ _ _ _ _)))), by repeat (first | (with_reducible first | exact HB.out | apply below_alloc | apply pw_below_drewN | apply below_drew1) | exact HB.out), Ao15, co15, rfl, by have e_ : y118 = y112 ++ MK4 := (by rw [Ny118.out, Ny105.out, Ny112.out, Ny115.out]; rfl); rw [← e_]; exact HMK.out⟩
     ·rw [if_neg c7] at H
      exact absurd H (by simp)
    ·rw [if_neg c6] at H
     exact absurd H (by simp)
   ·rw [if_neg c5] at H
    exact absurd H (by simp)
  ·rw [if_neg c4] at H
   exact absurd H (by simp)
 ·rw [if_neg c3] at H
  exact absurd H (by simp)
theorem endonymlaw4_few.calls (A0 : Option Addr) (c0 : Nat) (l0 : List (S35)) (r1 : List (S35)) (r2 : List (S35)) (w : World) (hr0 : Kd.C k35 w A0 l0.length l0) (hc0 : l0.length ≤ c0) (h : endonymlaw4_few.f l0 = some (r1, r2)) :
  Calls Try.prog 8 #[.slice A0 l0.length c0] w fun e w' => ∃ v0_ v1_ : Value, e = .returned (.tuple #[v0_, v1_]) ∧ Kd.R k35 35 w' w.heap.size (fun k_ => some k_ ≠ (v1_ : Value).ownBlock) v0_ r1 ∧ Kd.R k35 35 w' w.heap.size (fun k_ => some k_ ≠ (v0_ : Value).ownBlock) v1_ r2 ∧ Below w.heap.size w w' := by
 refine (endonymlaw4_few.marks A0 c0 l0 r1 r2 w hr0 hc0 h).mono ?_
 rintro e w' ⟨v0, v1, h1, h2, h3, h4, _⟩
 exact ⟨v0, v1, h1, h2, h3, h4⟩

/-! ### trie_wrong: function 23 -/
mutual
def trie_wrong.l0 : Nat → List (S35) → Int → List (S35) → Int → Int → Option (Int × Int)
 | 0, _, _, _, _, _ => none
 | k + 1, x0, x1, x8, x9, x10 => if x10 < x9 then (if 0 ≤ x10 then (if x10 < (x8.length : Int) then (if ((rd_T35 x8 x10).f0) < 0 then (trie_wrong.j1 k x0 x1 x10 x8 x9 x10 true ((rd_T35 x8 x10).f0) ((rd_T35 x8 x10).f1) ((rd_T35 x8 x10).f2)) else (if ((rd_T35 x8 x10).f1) > 1114111 then (trie_wrong.j1 k x0 x1 x10 x8 x9 x10 true ((rd_T35 x8 x10).f0) ((rd_T35 x8 x10).f1) ((rd_T35 x8 x10).f2)) else (trie_wrong.j1 k x0 x1 x10 x8 x9 x10 (decide (((rd_T35 x8 x10).f0) > ((rd_T35 x8 x10).f1))) ((rd_T35 x8 x10).f0) ((rd_T35 x8 x10).f1) ((rd_T35 x8 x10).f2)))) else (none)) else (none)) else (if x1 < 0 then (some ((x0.length : Int), 42)) else (if x1 > 65535 then (some ((x0.length : Int), 42)) else (some (0, 0))))
def trie_wrong.j1 : Nat → List (S35) → Int → Int → List (S35) → Int → Int → Bool → Int → Int → Int → Option (Int × Int)
 | 0, _, _, _, _, _, _, _, _, _, _ => none
 | k + 1, x0, x1, x6, x8, x9, x10, x15, x103000, x103001, x103002 => if x15 = true then (some (x6, 40)) else (if x103002 < 0 then (trie_wrong.j2 k x0 x1 x6 x8 x9 x10 true x103000 x103001 x103002) else (trie_wrong.j2 k x0 x1 x6 x8 x9 x10 (decide (x103002 > 65535)) x103000 x103001 x103002))
def trie_wrong.j2 : Nat → List (S35) → Int → Int → List (S35) → Int → Int → Bool → Int → Int → Int → Option (Int × Int)
 | 0, _, _, _, _, _, _, _, _, _, _ => none
 | k + 1, x0, x1, x6, x8, x9, x10, x32, x103000, x103001, x103002 => if x32 = true then (some (x6, 42)) else (if x6 > 0 then (if 0 ≤ (wrap64 (x6 - 1)) then (if (wrap64 (x6 - 1)) < (x0.length : Int) then (if x103000 ≤ ((rd_T35 x0 (wrap64 (x6 - 1))).f1) then (some (x6, 41)) else (trie_wrong.l0 k x0 x1 x8 x9 (wrap64 (x10 + 1)))) else (none)) else (none)) else (trie_wrong.l0 k x0 x1 x8 x9 (wrap64 (x10 + 1))))
end
def trie_wrong.f (k : Nat) (l0 : List (S35)) (a1 : Int) : Option (Int × Int) := trie_wrong.l0 k l0 a1 l0 (l0.length : Int) 0
theorem trie_wrong.mono_l : ∀ k, (∀ y0 y1 y2 y3 y4, LeO (trie_wrong.l0 k y0 y1 y2 y3 y4) (trie_wrong.l0 (k + 1) y0 y1 y2 y3 y4)) ∧ (∀ y0 y1 y2 y3 y4 y5 y6 y7 y8 y9, LeO (trie_wrong.j1 k y0 y1 y2 y3 y4 y5 y6 y7 y8 y9) (trie_wrong.j1 (k + 1) y0 y1 y2 y3 y4 y5 y6 y7 y8 y9)) ∧ (∀ y0 y1 y2 y3 y4 y5 y6 y7 y8 y9, LeO (trie_wrong.j2 k y0 y1 y2 y3 y4 y5 y6 y7 y8 y9) (trie_wrong.j2 (k + 1) y0 y1 y2 y3 y4 y5 y6 y7 y8 y9))
 | 0 => ⟨fun _ _ _ _ _ r h => by simp [trie_wrong.l0] at h, fun _ _ _ _ _ _ _ _ _ _ r h => by simp [trie_wrong.j1] at h, fun _ _ _ _ _ _ _ _ _ _ r h => by simp [trie_wrong.j2] at h⟩
 | k + 1 => by
  obtain ⟨ih0, ih1, ih2⟩ := trie_wrong.mono_l k
  refine ⟨?_, ?_, ?_⟩
  ·intro y0 y1 y2 y3 y4
   unfold trie_wrong.l0
   repeat' first
   | (with_reducible exact ih0 _ _ _ _ _)
   | (with_reducible exact ih1 _ _ _ _ _ _ _ _ _ _)
   | (with_reducible exact ih2 _ _ _ _ _ _ _ _ _ _)
   | (with_reducible exact LeO.refl _)
   | (with_reducible exact LeO.none _)
   | (with_reducible refine LeO.ite ?_ ?_)
   | (with_reducible refine LeO.bind ?_ (fun _ => ?_))
   | exact ih0 _ _ _ _ _
   | exact ih1 _ _ _ _ _ _ _ _ _ _
   | exact ih2 _ _ _ _ _ _ _ _ _ _
   | exact LeO.none _
   | refine LeO.ite ?_ ?_
   | refine LeO.bind ?_ (fun _ => ?_)
  ·intro y0 y1 y2 y3 y4 y5 y6 y7 y8 y9
   unfold trie_wrong.j1
   repeat' first
   | (with_reducible exact ih0 _ _ _ _ _)
   | (with_reducible exact ih1 _ _ _ _ _ _ _ _ _ _)
   | (with_reducible exact ih2 _ _ _ _ _ _ _ _ _ _)
   | (with_reducible exact LeO.refl _)
   | (with_reducible exact LeO.none _)
   | (with_reducible refine LeO.ite ?_ ?_)
   | (with_reducible refine LeO.bind ?_ (fun _ => ?_))
   | exact ih0 _ _ _ _ _
   | exact ih1 _ _ _ _ _ _ _ _ _ _
   | exact ih2 _ _ _ _ _ _ _ _ _ _
   | exact LeO.none _
   | refine LeO.ite ?_ ?_
   | refine LeO.bind ?_ (fun _ => ?_)
  ·intro y0 y1 y2 y3 y4 y5 y6 y7 y8 y9
   unfold trie_wrong.j2
   repeat' first
   | (with_reducible exact ih0 _ _ _ _ _)
   | (with_reducible exact ih1 _ _ _ _ _ _ _ _ _ _)
   | (with_reducible exact ih2 _ _ _ _ _ _ _ _ _ _)
   | (with_reducible exact LeO.refl _)
   | (with_reducible exact LeO.none _)
   | (with_reducible refine LeO.ite ?_ ?_)
   | (with_reducible refine LeO.bind ?_ (fun _ => ?_))
   | exact ih0 _ _ _ _ _
   | exact ih1 _ _ _ _ _ _ _ _ _ _
   | exact ih2 _ _ _ _ _ _ _ _ _ _
   | exact LeO.none _
   | refine LeO.ite ?_ ?_
   | refine LeO.bind ?_ (fun _ => ?_)
theorem trie_wrong.mono : ∀ a0 a1 k, LeO (trie_wrong.f k a0 a1) (trie_wrong.f (k + 1) a0 a1) := by
 intro a0 a1 k
 obtain ⟨ih0, ih1, ih2⟩ := trie_wrong.mono_l k
 unfold trie_wrong.f
 repeat' first
   | (with_reducible exact ih0 _ _ _ _ _)
   | (with_reducible exact ih1 _ _ _ _ _ _ _ _ _ _)
   | (with_reducible exact ih2 _ _ _ _ _ _ _ _ _ _)
   | (with_reducible exact LeO.refl _)
   | (with_reducible exact LeO.none _)
   | (with_reducible refine LeO.ite ?_ ?_)
   | (with_reducible refine LeO.bind ?_ (fun _ => ?_))
   | exact ih0 _ _ _ _ _
   | exact ih1 _ _ _ _ _ _ _ _ _ _
   | exact ih2 _ _ _ _ _ _ _ _ _ _
   | exact LeO.none _
   | refine LeO.ite ?_ ?_
   | refine LeO.bind ?_ (fun _ => ?_)
set_option maxHeartbeats 8000000 in
set_option maxRecDepth 100000 in
theorem trie_wrong.calls (k : Nat) (A0 : Option Addr) (c0 : Nat) (l0 : List (S35)) (a1 : Int) (r1 : Int) (r2 : Int) (w : World) (hr0 : Kd.C k35 w A0 l0.length l0) (hc0 : l0.length ≤ c0) (h : trie_wrong.f k l0 a1 = some (r1, r2)) :
  Calls Try.prog 23 #[.slice A0 l0.length c0, .int .i64 a1] w fun e w' => e = .returned (.tuple #[.int .i64 r1, .int .i64 r2]) ∧ Below w.heap.size w w' := by
 have hu35 := Try.underlying35
 have HR0 := Aside0.mk hr0
 have HC0 := Aside0.mk hc0
 clear hr0 hc0
 have HB := Aside0.mk (Below.refl w.heap.size w)
 have H : (trie_wrong.l0 k l0 a1 l0 (l0.length : Int) 0) = some (r1, r2) := h
 clear h
 have H' := Aside0.mk H
 clear H
 go_enter Try.func23, Try.ntmps23
 go_wp2
 repeat (go_quiet (fail); try go_wp2)
 go_loopg [10] k (fun kq v10 w' => ∃ (x10_1 : Int), v10 = .int .i64 x10_1 ∧ Aside0 (trie_wrong.l0 kq l0 a1 l0 (l0.length : Int) x10_1 = some (r1, r2)) ∧ Aside0 (kq ≤ k) ∧ Aside0 (Below w.heap.size w w'))
 case atStart => exact ⟨(0), (by first | rfl | (simp; done) | (simp [*]; done)), H', ⟨Nat.le_refl _⟩, ⟨by repeat (first | (with_reducible first | exact HB.out | apply below_alloc | apply pw_below_drewN | apply below_drew1) | exact HB.out)⟩⟩
 case round =>
  clear H'
  (try clear c2); (try clear p2)
  obtain ⟨x10_1, rfl, HA, HK1, HB⟩ := hrel
  cases gk with
  | zero => exact absurd HA.out (by simp [trie_wrong.l0])
  | succ k1 =>
   have H := HA.out
   clear HA
   simp only [trie_wrong.l0] at H
   by_cases c3 : x10_1 < (l0.length : Int)
   ·rw [if_pos c3] at H
    have c3b0 : decide (x10_1 < (l0.length : Int)) = true := decide_eq_true c3
    clear c3
    by_cases c4 : 0 ≤ x10_1
    ·rw [if_pos c4] at H
     have c4b0 : decide (0 ≤ x10_1) = true := decide_eq_true c4
     clear c4
     by_cases c5 : x10_1 < (l0.length : Int)
     ·rw [if_pos c5] at H
      have c5b0 : decide (x10_1 < (l0.length : Int)) = true := decide_eq_true c5
      clear c5
      have HC6 := Aside0.mk H
      clear H
      have p101 : 0 ≤ (x10_1 : Int) := of_decide_eq_true (by first | (with_reducible assumption) | assumption)
      have q101 : x10_1 < (l0.length : Int) := of_decide_eq_true (by first | (with_reducible assumption) | assumption)
      obtain ⟨ad101, e101, hx101_0, hx101_1, hx101_2⟩ := at_T35 HR0.out x10_1 p101 q101
      cases e101
      replace hx101_0 := (HB.out.cell (World.block_lt_of_cell? w _ hx101_0)).trans hx101_0
      replace hx101_1 := (HB.out.cell (World.block_lt_of_cell? w _ hx101_1)).trans hx101_1
      replace hx101_2 := (HB.out.cell (World.block_lt_of_cell? w _ hx101_2)).trans hx101_2
      replace p101 := eq_true p101
      replace q101 := eq_true q101
      go_upto_region 4 with (first | ((with_reducible refine gate_dst (N := 7) rfl ?_); refine box_event ?hg (N := 7) ?hd (cs := #[.int .i64 0, .int .i64 0, .int .i64 0]) (t := 35) ?hr ?_; (case hd => rfl); (case hg => rfl); (case hr => first | (go_simp; done) | (go_simp; rfl)); intro gb102 hg w7 hbox hb; have n0_ := Aside0.mk (below_step (by repeat (first | (with_reducible first | exact HB.out | apply below_alloc | apply pw_below_drewN | apply below_drew1) | exact HB.out)) hb); have n1_ := Aside0.mk (hbox); have n2_ := Aside0.mk ((by rw [hg]; exact (below_size (by repeat (first | (with_reducible first | exact HB.out | apply below_alloc | apply pw_below_drewN | apply below_drew1) | exact HB.out))) : w.heap.size ≤ gb102)); have n3_ := Aside0.mk ((by rw [hg]; exact (below_size (by repeat (first | (with_reducible first | exact HB.out | apply below_alloc | apply pw_below_drewN | apply below_drew1) | exact HB.out))) : w.heap.size ≤ gb102)); clear HB; have HB := n0_; have BK102 := n1_; have GW102 := n2_; have GE102 := n3_; clear n0_ n1_ n2_ n3_; clear hb hbox hg; have hcz8_0 : w7.cell? ⟨gb102, 0, none⟩ = some (.int .i64 0) := (blk_cell BK102.out 0).trans rfl; have hcz8_1 : w7.cell? ⟨gb102, 1, none⟩ = some (.int .i64 0) := (blk_cell BK102.out 1).trans rfl; have hcz8_2 : w7.cell? ⟨gb102, 2, none⟩ = some (.int .i64 0) := (blk_cell BK102.out 2).trans rfl; have hfz8_0 := blk_frozen BK102.out 0; have hfz8_1 := blk_frozen BK102.out 1; have hfz8_2 := blk_frozen BK102.out 2))
      repeat (go_quiet (first | ((with_reducible refine gate_dst (N := 7) rfl ?_); refine box_event ?hg (N := 7) ?hd (cs := #[.int .i64 0, .int .i64 0, .int .i64 0]) (t := 35) ?hr ?_; (case hd => rfl); (case hg => rfl); (case hr => first | (go_simp; done) | (go_simp; rfl)); intro gb102 hg w7 hbox hb; have n0_ := Aside0.mk (below_step (by repeat (first | (with_reducible first | exact HB.out | apply below_alloc | apply pw_below_drewN | apply below_drew1) | exact HB.out)) hb); have n1_ := Aside0.mk (hbox); have n2_ := Aside0.mk ((by rw [hg]; exact (below_size (by repeat (first | (with_reducible first | exact HB.out | apply below_alloc | apply pw_below_drewN | apply below_drew1) | exact HB.out))) : w.heap.size ≤ gb102)); have n3_ := Aside0.mk ((by rw [hg]; exact (below_size (by repeat (first | (with_reducible first | exact HB.out | apply below_alloc | apply pw_below_drewN | apply below_drew1) | exact HB.out))) : w.heap.size ≤ gb102)); clear HB; have HB := n0_; have BK102 := n1_; have GW102 := n2_; have GE102 := n3_; clear n0_ n1_ n2_ n3_; clear hb hbox hg; have hcz8_0 : w7.cell? ⟨gb102, 0, none⟩ = some (.int .i64 0) := (blk_cell BK102.out 0).trans rfl; have hcz8_1 : w7.cell? ⟨gb102, 1, none⟩ = some (.int .i64 0) := (blk_cell BK102.out 1).trans rfl; have hcz8_2 : w7.cell? ⟨gb102, 2, none⟩ = some (.int .i64 0) := (blk_cell BK102.out 2).trans rfl; have hfz8_0 := blk_frozen BK102.out 0; have hfz8_1 := blk_frozen BK102.out 1; have hfz8_2 := blk_frozen BK102.out 2)); go_upto_region 4 with (first | ((with_reducible refine gate_dst (N := 7) rfl ?_); refine box_event ?hg (N := 7) ?hd (cs := #[.int .i64 0, .int .i64 0, .int .i64 0]) (t := 35) ?hr ?_; (case hd => rfl); (case hg => rfl); (case hr => first | (go_simp; done) | (go_simp; rfl)); intro gb102 hg w7 hbox hb; have n0_ := Aside0.mk (below_step (by repeat (first | (with_reducible first | exact HB.out | apply below_alloc | apply pw_below_drewN | apply below_drew1) | exact HB.out)) hb); have n1_ := Aside0.mk (hbox); have n2_ := Aside0.mk ((by rw [hg]; exact (below_size (by repeat (first | (with_reducible first | exact HB.out | apply below_alloc | apply pw_below_drewN | apply below_drew1) | exact HB.out))) : w.heap.size ≤ gb102)); have n3_ := Aside0.mk ((by rw [hg]; exact (below_size (by repeat (first | (with_reducible first | exact HB.out | apply below_alloc | apply pw_below_drewN | apply below_drew1) | exact HB.out))) : w.heap.size ≤ gb102)); clear HB; have HB := n0_; have BK102 := n1_; have GW102 := n2_; have GE102 := n3_; clear n0_ n1_ n2_ n3_; clear hb hbox hg; have hcz8_0 : w7.cell? ⟨gb102, 0, none⟩ = some (.int .i64 0) := (blk_cell BK102.out 0).trans rfl; have hcz8_1 : w7.cell? ⟨gb102, 1, none⟩ = some (.int .i64 0) := (blk_cell BK102.out 1).trans rfl; have hcz8_2 : w7.cell? ⟨gb102, 2, none⟩ = some (.int .i64 0) := (blk_cell BK102.out 2).trans rfl; have hfz8_0 := blk_frozen BK102.out 0; have hfz8_1 := blk_frozen BK102.out 1; have hfz8_2 := blk_frozen BK102.out 2)))
      (try simp only [Act.put, List.setIfInBounds_toArray, List.set_cons_zero, List.set_cons_succ])
      go_cut [15] (fun v15 wc => ∃ (kq : Nat) (x15_5 : Bool), v15 = .bool x15_5 ∧ Aside0 (trie_wrong.j1 kq l0 a1 x10_1 l0 (l0.length : Int) x10_1 x15_5 ((rd_T35 l0 x10_1).f0) ((rd_T35 l0 x10_1).f1) ((rd_T35 l0 x10_1).f2) = some (r1, r2)) ∧ Aside0 (kq ≤ k1) ∧ Aside0 (wc.heap[gb102]? = some (.cells #[.int .i64 ((rd_T35 l0 x10_1).f0), .int .i64 ((rd_T35 l0 x10_1).f1), .int .i64 ((rd_T35 l0 x10_1).f2)] 35 (0, 0))) ∧ Aside0 (Below w.heap.size w wc))
      case first =>
       have H := HC6.out
       clear HC6
       by_cases c9 : ((rd_T35 l0 x10_1).f0) < 0
       ·rw [if_pos c9] at H
        have c9b0 : decide (((rd_T35 l0 x10_1).f0) < 0) = true := decide_eq_true c9
        clear c9
        (first | rw [c9b0] | (simp only [i64_w, i32_w]; rw [c9b0]) | skip)
        have H' := Aside0.mk H
        clear H
        have hcz10_0 : w7.cell? ⟨gb102, 0, none⟩ = some (.int .i64 0) := (blk_cell BK102.out 0).trans rfl
        have hcz10_1 : w7.cell? ⟨gb102, 1, none⟩ = some (.int .i64 0) := (blk_cell BK102.out 1).trans rfl
        have hcz10_2 : w7.cell? ⟨gb102, 2, none⟩ = some (.int .i64 0) := (blk_cell BK102.out 2).trans rfl
        have hfz10_0 := blk_frozen BK102.out 0
        have hfz10_1 := blk_frozen BK102.out 1
        have hfz10_2 := blk_frozen BK102.out 2
        go_wp2
        repeat (go_quiet (fail); try go_wp2)
        go_meet
        case rel => exact ⟨_, (true), (by first | rfl | (simp; done) | (simp [*]; done)), H', ⟨by have := HK1.out; first | omega | exact Nat.le_refl _⟩, ⟨by (with_reducible repeat (first | refine blk_drewN ?_ _ | refine blk_drew ?_ | refine blk_alloc ?_ _)); refine blk_put (cs := #[.int .i64 ((rd_T35 l0 x10_1).f0), .int .i64 ((rd_T35 l0 x10_1).f1), .int .i64 0]) ?_ 2 _ rfl; (with_reducible repeat (first | refine blk_drewN ?_ _ | refine blk_drew ?_ | refine blk_alloc ?_ _)); refine blk_put (cs := #[.int .i64 ((rd_T35 l0 x10_1).f0), .int .i64 0, .int .i64 0]) ?_ 1 _ rfl; (with_reducible repeat (first | refine blk_drewN ?_ _ | refine blk_drew ?_ | refine blk_alloc ?_ _)); refine blk_put (cs := #[.int .i64 0, .int .i64 0, .int .i64 0]) ?_ 0 _ rfl; (with_reducible repeat (first | refine blk_drewN ?_ _ | refine blk_drew ?_ | refine blk_alloc ?_ _)); exact BK102.out⟩, ⟨by repeat (first | (with_reducible first | exact HB.out | apply below_alloc | apply pw_below_drewN | apply below_drew1 | refine below_set ?_ GE102.out) | exact HB.out)⟩⟩
       ·rw [if_neg c9] at H
        have c9b0 : decide (((rd_T35 l0 x10_1).f0) < 0) = false := decide_eq_false c9
        clear c9
        (first | rw [c9b0] | (simp only [i64_w, i32_w]; rw [c9b0]) | skip)
        by_cases c11 : ((rd_T35 l0 x10_1).f1) > 1114111
        ·rw [if_pos c11] at H
         have c11b0 : decide (1114111 < ((rd_T35 l0 x10_1).f1)) = true := decide_eq_true c11
         clear c11
         have H' := Aside0.mk H
         clear H
         have hcz12_0 : w7.cell? ⟨gb102, 0, none⟩ = some (.int .i64 0) := (blk_cell BK102.out 0).trans rfl
         have hcz12_1 : w7.cell? ⟨gb102, 1, none⟩ = some (.int .i64 0) := (blk_cell BK102.out 1).trans rfl
         have hcz12_2 : w7.cell? ⟨gb102, 2, none⟩ = some (.int .i64 0) := (blk_cell BK102.out 2).trans rfl
         have hfz12_0 := blk_frozen BK102.out 0
         have hfz12_1 := blk_frozen BK102.out 1
         have hfz12_2 := blk_frozen BK102.out 2
         go_wp2
         repeat (go_quiet (fail); try go_wp2)
         go_meet
         case rel => exact ⟨_, (true), (by first | rfl | (simp; done) | (simp [*]; done)), H', ⟨by have := HK1.out; first | omega | exact Nat.le_refl _⟩, ⟨by (with_reducible repeat (first | refine blk_drewN ?_ _ | refine blk_drew ?_ | refine blk_alloc ?_ _)); refine blk_put (cs := #[.int .i64 ((rd_T35 l0 x10_1).f0), .int .i64 ((rd_T35 l0 x10_1).f1), .int .i64 0]) ?_ 2 _ rfl; (with_reducible repeat (first | refine blk_drewN ?_ _ | refine blk_drew ?_ | refine blk_alloc ?_ _)); refine blk_put (cs := #[.int .i64 ((rd_T35 l0 x10_1).f0), .int .i64 0, .int .i64 0]) ?_ 1 _ rfl; (with_reducible repeat (first | refine blk_drewN ?_ _ | refine blk_drew ?_ | refine blk_alloc ?_ _)); refine blk_put (cs := #[.int .i64 0, .int .i64 0, .int .i64 0]) ?_ 0 _ rfl; (with_reducible repeat (first | refine blk_drewN ?_ _ | refine blk_drew ?_ | refine blk_alloc ?_ _)); exact BK102.out⟩, ⟨by repeat (first | (with_reducible first | exact HB.out | apply below_alloc | apply pw_below_drewN | apply below_drew1 | refine below_set ?_ GE102.out) | exact HB.out)⟩⟩
        ·rw [if_neg c11] at H
         have c11b0 : decide (1114111 < ((rd_T35 l0 x10_1).f1)) = false := decide_eq_false c11
         clear c11
         have H' := Aside0.mk H
         clear H
         have hcz13_0 : w7.cell? ⟨gb102, 0, none⟩ = some (.int .i64 0) := (blk_cell BK102.out 0).trans rfl
         have hcz13_1 : w7.cell? ⟨gb102, 1, none⟩ = some (.int .i64 0) := (blk_cell BK102.out 1).trans rfl
         have hcz13_2 : w7.cell? ⟨gb102, 2, none⟩ = some (.int .i64 0) := (blk_cell BK102.out 2).trans rfl
         have hfz13_0 := blk_frozen BK102.out 0
         have hfz13_1 := blk_frozen BK102.out 1
         have hfz13_2 := blk_frozen BK102.out 2
         go_wp2
         repeat (go_quiet (fail); try go_wp2)
         go_meet
         case rel => exact ⟨_, (decide (((rd_T35 l0 x10_1).f0) > ((rd_T35 l0 x10_1).f1))), (by first | rfl | (simp; done) | (simp [*]; done)), H', ⟨by have := HK1.out; first | omega | exact Nat.le_refl _⟩, ⟨by (with_reducible repeat (first | refine blk_drewN ?_ _ | refine blk_drew ?_ | refine blk_alloc ?_ _)); refine blk_put (cs := #[.int .i64 ((rd_T35 l0 x10_1).f0), .int .i64 ((rd_T35 l0 x10_1).f1), .int .i64 0]) ?_ 2 _ rfl; (with_reducible repeat (first | refine blk_drewN ?_ _ | refine blk_drew ?_ | refine blk_alloc ?_ _)); refine blk_put (cs := #[.int .i64 ((rd_T35 l0 x10_1).f0), .int .i64 0, .int .i64 0]) ?_ 1 _ rfl; (with_reducible repeat (first | refine blk_drewN ?_ _ | refine blk_drew ?_ | refine blk_alloc ?_ _)); refine blk_put (cs := #[.int .i64 0, .int .i64 0, .int .i64 0]) ?_ 0 _ rfl; (with_reducible repeat (first | refine blk_drewN ?_ _ | refine blk_drew ?_ | refine blk_alloc ?_ _)); exact BK102.out⟩, ⟨by repeat (first | (with_reducible first | exact HB.out | apply below_alloc | apply pw_below_drewN | apply below_drew1 | refine below_set ?_ GE102.out) | exact HB.out)⟩⟩
      case rest =>
       clear HC6
       (try clear c1); (try clear p1); (try clear q1); (try clear hx1); (try clear c2); (try clear p2); (try clear c3); (try clear c3b0); (try clear c4); (try clear c4b0); (try clear c5); (try clear c5b0); (try clear c9); (try clear c9b0); (try clear p10); (try clear q10); (try clear hx10); (try clear c11); (try clear c11b0); (try clear hcz10_0); (try clear hcz10_1); (try clear hcz10_2); (try clear hcz12_0); (try clear hcz12_1); (try clear hcz12_2); (try clear hcz13_0); (try clear hcz13_1); (try clear hcz13_2); (try clear hcz8_0); (try clear hcz8_1); (try clear hcz8_2); (try clear hfz10_0); (try clear hfz10_1); (try clear hfz10_2); (try clear hfz12_0); (try clear hfz12_1); (try clear hfz12_2); (try clear hfz13_0); (try clear hfz13_1); (try clear hfz13_2); (try clear hfz8_0); (try clear hfz8_1); (try clear hfz8_2); (try clear hx101_0); (try clear hx101_1); (try clear hx101_2); (try clear p101); (try clear p2); (try clear q101)
       obtain ⟨kq, x15_5, rfl, HA, HJ5, BK102, HB⟩ := hcut
       cases kq with
       | zero => exact absurd HA.out (by simp [trie_wrong.j1])
       | succ kj5 =>
        have H := HA.out
        clear HA
        simp only [trie_wrong.j1] at H
        by_cases c14 : x15_5 = true
        ·subst c14
         have H1 : (some (x10_1, 40)) = some (r1, r2) := by rw [if_pos rfl] at H; exact H
         clear H
         have H := H1
         clear H1
         simp only [Option.some.injEq, Prod.mk.injEq] at H
         obtain ⟨rfl, rfl⟩ := H
         go_wp2
         repeat (go_quiet (fail); try go_wp2)
         go_ret2
         exact ⟨by first | rfl | (simp [errW_none, errW_some] <;> rfl) | (simp [*, errW_none, errW_some] <;> rfl), by repeat (first | (with_reducible first | exact HB.out | apply below_alloc | apply pw_below_drewN | apply below_drew1 | refine below_set ?_ GE102.out) | exact HB.out)⟩
        ·replace c14 := Bool.eq_false_iff.mpr c14
         subst c14
         have H1 : (if ((rd_T35 l0 x10_1).f2) < 0 then (trie_wrong.j2 kj5 l0 a1 x10_1 l0 (l0.length : Int) x10_1 true ((rd_T35 l0 x10_1).f0) ((rd_T35 l0 x10_1).f1) ((rd_T35 l0 x10_1).f2)) else (trie_wrong.j2 kj5 l0 a1 x10_1 l0 (l0.length : Int) x10_1 (decide (((rd_T35 l0 x10_1).f2) > 65535)) ((rd_T35 l0 x10_1).f0) ((rd_T35 l0 x10_1).f1) ((rd_T35 l0 x10_1).f2))) = some (r1, r2) := by rw [if_neg (show ¬ (false = true) by decide)] at H; exact H
         clear H
         have H := H1
         clear H1
         have HC15 := Aside0.mk H
         clear H
         go_upto_region 6 with (fail)
         repeat (go_quiet (fail); go_upto_region 6 with (fail))
         go_cut [32] (fun v32 wc => ∃ (kq : Nat) (x32_14 : Bool), v32 = .bool x32_14 ∧ Aside0 (trie_wrong.j2 kq l0 a1 x10_1 l0 (l0.length : Int) x10_1 x32_14 ((rd_T35 l0 x10_1).f0) ((rd_T35 l0 x10_1).f1) ((rd_T35 l0 x10_1).f2) = some (r1, r2)) ∧ Aside0 (kq ≤ kj5) ∧ Aside0 (wc.heap[gb102]? = some (.cells #[.int .i64 ((rd_T35 l0 x10_1).f0), .int .i64 ((rd_T35 l0 x10_1).f1), .int .i64 ((rd_T35 l0 x10_1).f2)] 35 (0, 0))) ∧ Aside0 (Below w.heap.size w wc))
         case first =>
          have H := HC15.out
          clear HC15
          by_cases c16 : ((rd_T35 l0 x10_1).f2) < 0
          ·rw [if_pos c16] at H
           have c16b0 : decide (((rd_T35 l0 x10_1).f2) < 0) = true := decide_eq_true c16
           clear c16
           (first | rw [c16b0] | (simp only [i64_w, i32_w]; rw [c16b0]) | skip)
           have H' := Aside0.mk H
           clear H
           have hcz17_0 : wc.cell? ⟨gb102, 0, none⟩ = some (.int .i64 ((rd_T35 l0 x10_1).f0)) := (blk_cell BK102.out 0).trans rfl
           have hcz17_1 : wc.cell? ⟨gb102, 1, none⟩ = some (.int .i64 ((rd_T35 l0 x10_1).f1)) := (blk_cell BK102.out 1).trans rfl
           have hcz17_2 : wc.cell? ⟨gb102, 2, none⟩ = some (.int .i64 ((rd_T35 l0 x10_1).f2)) := (blk_cell BK102.out 2).trans rfl
           have hfz17_0 := blk_frozen BK102.out 0
           have hfz17_1 := blk_frozen BK102.out 1
           have hfz17_2 := blk_frozen BK102.out 2
           go_wp2
           repeat (go_quiet (fail); try go_wp2)
           go_meet
           case rel => exact ⟨_, (true), (by first | rfl | (simp; done) | (simp [*]; done)), H', ⟨by have := HK1.out; have := HJ5.out; first | omega | exact Nat.le_refl _⟩, ⟨by (with_reducible repeat (first | refine blk_drewN ?_ _ | refine blk_drew ?_ | refine blk_alloc ?_ _)); exact BK102.out⟩, ⟨by repeat (first | (with_reducible first | exact HB.out | apply below_alloc | apply pw_below_drewN | apply below_drew1 | refine below_set ?_ GE102.out) | exact HB.out)⟩⟩
          ·rw [if_neg c16] at H
           have c16b0 : decide (((rd_T35 l0 x10_1).f2) < 0) = false := decide_eq_false c16
           clear c16
           (first | rw [c16b0] | (simp only [i64_w, i32_w]; rw [c16b0]) | skip)
           have H' := Aside0.mk H
           clear H
           have hcz18_0 : wc.cell? ⟨gb102, 0, none⟩ = some (.int .i64 ((rd_T35 l0 x10_1).f0)) := (blk_cell BK102.out 0).trans rfl
           have hcz18_1 : wc.cell? ⟨gb102, 1, none⟩ = some (.int .i64 ((rd_T35 l0 x10_1).f1)) := (blk_cell BK102.out 1).trans rfl
           have hcz18_2 : wc.cell? ⟨gb102, 2, none⟩ = some (.int .i64 ((rd_T35 l0 x10_1).f2)) := (blk_cell BK102.out 2).trans rfl
           have hfz18_0 := blk_frozen BK102.out 0
           have hfz18_1 := blk_frozen BK102.out 1
           have hfz18_2 := blk_frozen BK102.out 2
           go_wp2
           repeat (go_quiet (fail); try go_wp2)
           go_meet
           case rel => exact ⟨_, (decide (((rd_T35 l0 x10_1).f2) > 65535)), (by first | rfl | (simp; done) | (simp [*]; done)), H', ⟨by have := HK1.out; have := HJ5.out; first | omega | exact Nat.le_refl _⟩, ⟨by (with_reducible repeat (first | refine blk_drewN ?_ _ | refine blk_drew ?_ | refine blk_alloc ?_ _)); exact BK102.out⟩, ⟨by repeat (first | (with_reducible first | exact HB.out | apply below_alloc | apply pw_below_drewN | apply below_drew1 | refine below_set ?_ GE102.out) | exact HB.out)⟩⟩
         case rest =>
          clear HC15
          (try clear c1); (try clear p1); (try clear q1); (try clear hx1); (try clear c2); (try clear p2); (try clear c3); (try clear c3b0); (try clear c4); (try clear c4b0); (try clear c5); (try clear c5b0); (try clear c9); (try clear c9b0); (try clear p10); (try clear q10); (try clear hx10); (try clear c11); (try clear c11b0); (try clear c14); (try clear c16); (try clear c16b0); (try clear hcz10_0); (try clear hcz10_1); (try clear hcz10_2); (try clear hcz12_0); (try clear hcz12_1); (try clear hcz12_2); (try clear hcz13_0); (try clear hcz13_1); (try clear hcz13_2); (try clear hcz17_0); (try clear hcz17_1); (try clear hcz17_2); (try clear hcz18_0); (try clear hcz18_1); (try clear hcz18_2); (try clear hcz8_0); (try clear hcz8_1); (try clear hcz8_2); (try clear hfz10_0); (try clear hfz10_1); (try clear hfz10_2); (try clear hfz12_0); (try clear hfz12_1); (try clear hfz12_2); (try clear hfz13_0); (try clear hfz13_1); (try clear hfz13_2); (try clear hfz17_0); (try clear hfz17_1); (try clear hfz17_2); (try clear hfz18_0); (try clear hfz18_1); (try clear hfz18_2); (try clear hfz8_0); (try clear hfz8_1); (try clear hfz8_2); (try clear hx101_0); (try clear hx101_1); (try clear hx101_2); (try clear p1); (try clear p10); (try clear p101); (try clear p2); (try clear q1); (try clear q10); (try clear q101)
          obtain ⟨kq, x32_14, rfl, HA, HJ14, BK102, HB⟩ := hcut
          cases kq with
          | zero => exact absurd HA.out (by simp [trie_wrong.j2])
          | succ kj14 =>
           have H := HA.out
           clear HA
           simp only [trie_wrong.j2] at H
           by_cases c19 : x32_14 = true
           ·subst c19
            have H1 : (some (x10_1, 42)) = some (r1, r2) := by rw [if_pos rfl] at H; exact H
            clear H
            have H := H1
            clear H1
            simp only [Option.some.injEq, Prod.mk.injEq] at H
            obtain ⟨rfl, rfl⟩ := H
            go_wp2
            repeat (go_quiet (fail); try go_wp2)
            go_ret2
            exact ⟨by first | rfl | (simp [errW_none, errW_some] <;> rfl) | (simp [*, errW_none, errW_some] <;> rfl), by repeat (first | (with_reducible first | exact HB.out | apply below_alloc | apply pw_below_drewN | apply below_drew1 | refine below_set ?_ GE102.out) | exact HB.out)⟩
           ·replace c19 := Bool.eq_false_iff.mpr c19
            subst c19
            have H1 : (if x10_1 > 0 then (if 0 ≤ (wrap64 (x10_1 - 1)) then (if (wrap64 (x10_1 - 1)) < (l0.length : Int) then (if ((rd_T35 l0 x10_1).f0) ≤ ((rd_T35 l0 (wrap64 (x10_1 - 1))).f1) then (some (x10_1, 41)) else (trie_wrong.l0 kj14 l0 a1 l0 (l0.length : Int) (wrap64 (x10_1 + 1)))) else (none)) else (none)) else (trie_wrong.l0 kj14 l0 a1 l0 (l0.length : Int) (wrap64 (x10_1 + 1)))) = some (r1, r2) := by rw [if_neg (show ¬ (false = true) by decide)] at H; exact H
            clear H
            have H := H1
            clear H1
            by_cases c20 : x10_1 > 0
            ·rw [if_pos c20] at H
             have c20b0 : decide (0 < x10_1) = true := decide_eq_true c20
             clear c20
             obtain ⟨ji21, hji21⟩ : ∃ j_ : Int, (wrap64 (x10_1 - 1)) = j_ := ⟨_, rfl⟩
             replace H : (if 0 ≤ (ji21) then (if (ji21) < (l0.length : Int) then (if ((rd_T35 l0 x10_1).f0) ≤ ((rd_T35 l0 (ji21)).f1) then (some (x10_1, 41)) else (trie_wrong.l0 kj14 l0 a1 l0 (l0.length : Int) (wrap64 (x10_1 + 1)))) else (none)) else (none)) = some (r1, r2) := by first | (rw [hji21] at H; exact H) | (simp only [hji21] at H ⊢; exact H)
             have hji21w : (IntKind.i64.wrap (x10_1 - 1)) = ji21 := (i64_w _).trans hji21
             by_cases c22 : 0 ≤ (ji21)
             ·rw [if_pos c22] at H
              have c22b0 : decide (0 ≤ (ji21)) = true := decide_eq_true c22
              clear c22
              by_cases c23 : (ji21) < (l0.length : Int)
              ·rw [if_pos c23] at H
               have c23b0 : decide ((ji21) < (l0.length : Int)) = true := decide_eq_true c23
               clear c23
               by_cases c24 : ((rd_T35 l0 x10_1).f0) ≤ ((rd_T35 l0 (ji21)).f1)
               ·rw [if_pos c24] at H
                have c24b0 : decide (((rd_T35 l0 x10_1).f0) ≤ ((rd_T35 l0 (ji21)).f1)) = true := decide_eq_true c24
                clear c24
                simp only [Option.some.injEq, Prod.mk.injEq] at H
                obtain ⟨rfl, rfl⟩ := H
                have hcz25_0 : wc.cell? ⟨gb102, 0, none⟩ = some (.int .i64 ((rd_T35 l0 x10_1).f0)) := (blk_cell BK102.out 0).trans rfl
                have hcz25_1 : wc.cell? ⟨gb102, 1, none⟩ = some (.int .i64 ((rd_T35 l0 x10_1).f1)) := (blk_cell BK102.out 1).trans rfl
                have hcz25_2 : wc.cell? ⟨gb102, 2, none⟩ = some (.int .i64 ((rd_T35 l0 x10_1).f2)) := (blk_cell BK102.out 2).trans rfl
                have hfz25_0 := blk_frozen BK102.out 0
                have hfz25_1 := blk_frozen BK102.out 1
                have hfz25_2 := blk_frozen BK102.out 2
                have p103 : 0 ≤ ((ji21) : Int) := of_decide_eq_true (by first | (with_reducible assumption) | assumption)
                have q103 : (ji21) < (l0.length : Int) := of_decide_eq_true (by first | (with_reducible assumption) | assumption)
                obtain ⟨ad103, e103, hx103_0, hx103_1, hx103_2⟩ := at_T35 HR0.out (ji21) p103 q103
                obtain rfl : ad101 = ad103 := (by injection e103)
                replace hx103_0 := (HB.out.cell (World.block_lt_of_cell? w _ hx103_0)).trans hx103_0
                replace hx103_1 := (HB.out.cell (World.block_lt_of_cell? w _ hx103_1)).trans hx103_1
                replace hx103_2 := (HB.out.cell (World.block_lt_of_cell? w _ hx103_2)).trans hx103_2
                replace p103 := eq_true p103
                replace q103 := eq_true q103
                go_wp2
                repeat (go_quiet (fail); try go_wp2)
                go_ret2
                exact ⟨by first | rfl | (simp [errW_none, errW_some] <;> rfl) | (simp only [← hji21]; first | rfl | (simp [errW_none, errW_some] <;> rfl)) | (simp [*, errW_none, errW_some] <;> rfl), by repeat (first | (with_reducible first | exact HB.out | apply below_alloc | apply pw_below_drewN | apply below_drew1 | refine below_set ?_ GE102.out) | exact HB.out)⟩
               ·rw [if_neg c24] at H
                have c24b0 : decide (((rd_T35 l0 x10_1).f0) ≤ ((rd_T35 l0 (ji21)).f1)) = false := decide_eq_false c24
                clear c24
                have H' := Aside0.mk H
                clear H
                have hcz26_0 : wc.cell? ⟨gb102, 0, none⟩ = some (.int .i64 ((rd_T35 l0 x10_1).f0)) := (blk_cell BK102.out 0).trans rfl
                have hcz26_1 : wc.cell? ⟨gb102, 1, none⟩ = some (.int .i64 ((rd_T35 l0 x10_1).f1)) := (blk_cell BK102.out 1).trans rfl
                have hcz26_2 : wc.cell? ⟨gb102, 2, none⟩ = some (.int .i64 ((rd_T35 l0 x10_1).f2)) := (blk_cell BK102.out 2).trans rfl
                have hfz26_0 := blk_frozen BK102.out 0
                have hfz26_1 := blk_frozen BK102.out 1
                have hfz26_2 := blk_frozen BK102.out 2
                have p103 : 0 ≤ ((ji21) : Int) := of_decide_eq_true (by first | (with_reducible assumption) | assumption)
                have q103 : (ji21) < (l0.length : Int) := of_decide_eq_true (by first | (with_reducible assumption) | assumption)
                obtain ⟨ad103, e103, hx103_0, hx103_1, hx103_2⟩ := at_T35 HR0.out (ji21) p103 q103
                obtain rfl : ad101 = ad103 := (by injection e103)
                replace hx103_0 := (HB.out.cell (World.block_lt_of_cell? w _ hx103_0)).trans hx103_0
                replace hx103_1 := (HB.out.cell (World.block_lt_of_cell? w _ hx103_1)).trans hx103_1
                replace hx103_2 := (HB.out.cell (World.block_lt_of_cell? w _ hx103_2)).trans hx103_2
                replace p103 := eq_true p103
                replace q103 := eq_true q103
                go_wp2
                repeat (go_quiet (fail); try go_wp2)
                go_roundg kj14
                case measure => have := HK1.out; have := HJ5.out; have := HJ14.out; omega
                case rel => exact ⟨(wrap64 (x10_1 + 1)), (by first | rfl | (simp; done) | (simp [*]; done)), H', ⟨by have := HK1.out; have := HJ5.out; have := HJ14.out; omega⟩, ⟨by repeat (first | (with_reducible first | exact HB.out | apply below_alloc | apply pw_below_drewN | apply below_drew1 | refine below_set ?_ GE102.out) | exact HB.out)⟩⟩
              ·rw [if_neg c23] at H
               exact absurd H (by simp)
             ·rw [if_neg c22] at H
              exact absurd H (by simp)
            ·rw [if_neg c20] at H
             have c20b0 : decide (0 < x10_1) = false := decide_eq_false c20
             clear c20
             have H' := Aside0.mk H
             clear H
             go_wp2
             repeat (go_quiet (fail); try go_wp2)
             go_roundg kj14
             case measure => have := HK1.out; have := HJ5.out; have := HJ14.out; omega
             case rel => exact ⟨(wrap64 (x10_1 + 1)), (by first | rfl | (simp; done) | (simp [*]; done)), H', ⟨by have := HK1.out; have := HJ5.out; have := HJ14.out; omega⟩, ⟨by repeat (first | (with_reducible first | exact HB.out | apply below_alloc | apply pw_below_drewN | apply below_drew1 | refine below_set ?_ GE102.out) | exact HB.out)⟩⟩
     ·rw [if_neg c5] at H
      exact absurd H (by simp)
    ·rw [if_neg c4] at H
     exact absurd H (by simp)
   ·rw [if_neg c3] at H
    have c3b0 : decide (x10_1 < (l0.length : Int)) = false := decide_eq_false c3
    clear c3
    by_cases c27 : a1 < 0
    ·rw [if_pos c27] at H
     have c27b0 : decide (a1 < 0) = true := decide_eq_true c27
     clear c27
     simp only [Option.some.injEq, Prod.mk.injEq] at H
     obtain ⟨rfl, rfl⟩ := H
     go_wp2
     repeat (go_quiet (fail); try go_wp2)
     go_ret2
     exact ⟨by first | rfl | (simp [errW_none, errW_some] <;> rfl) | (simp [*, errW_none, errW_some] <;> rfl), by repeat (first | (with_reducible first | exact HB.out | apply below_alloc | apply pw_below_drewN | apply below_drew1) | exact HB.out)⟩
    ·rw [if_neg c27] at H
     have c27b0 : decide (a1 < 0) = false := decide_eq_false c27
     clear c27
     by_cases c28 : a1 > 65535
     ·rw [if_pos c28] at H
      have c28b0 : decide (65535 < a1) = true := decide_eq_true c28
      clear c28
      simp only [Option.some.injEq, Prod.mk.injEq] at H
      obtain ⟨rfl, rfl⟩ := H
      go_wp2
      repeat (go_quiet (fail); try go_wp2)
      go_ret2
      exact ⟨by first | rfl | (simp [errW_none, errW_some] <;> rfl) | (simp [*, errW_none, errW_some] <;> rfl), by repeat (first | (with_reducible first | exact HB.out | apply below_alloc | apply pw_below_drewN | apply below_drew1) | exact HB.out)⟩
     ·rw [if_neg c28] at H
      have c28b0 : decide (65535 < a1) = false := decide_eq_false c28
      clear c28
      simp only [Option.some.injEq, Prod.mk.injEq] at H
      obtain ⟨rfl, rfl⟩ := H
      go_wp2
      repeat (go_quiet (fail); try go_wp2)
      go_ret2
      exact ⟨by first | rfl | (simp [errW_none, errW_some] <;> rfl) | (simp [*, errW_none, errW_some] <;> rfl), by repeat (first | (with_reducible first | exact HB.out | apply below_alloc | apply pw_below_drewN | apply below_drew1) | exact HB.out)⟩

end Go.Proofs.Ytiaodapgankjnaa.Q
