-- Written by wip/tools/pr.py of this session over the kit's print (widened); the words are the kit's print's own. Not trusted: Lean checks it.
import Derived.Test.YtgjmollnjlkjhaaQx0
namespace Go.Proofs.Ytgjmollnjlkjhaa.Q
open Go.RowKit Go.Proofs.YtgjmollnjlkjhaaW.PrintWords Go.Proofs.YtgjmollnjlkjhaaW.PrintLast Go.Proofs.YtgjmollnjlkjhaaW.PrintMore
attribute [local go_sem] max2_int min2_int max_two min_two max_three min_three max_four min_four   -- for this text's walks alone
set_option linter.unusedVariables false
set_option linter.unusedSimpArgs false

/-! ### endonymlaw1_roomy: function 11 (by hand) -/
def endonymlaw1_roomy.f (l0 : List Int) : Option (List Int) := if l0.length < 140737488355326 then some l0 else none
set_option maxHeartbeats 4000000 in
set_option maxRecDepth 100000 in
theorem endonymlaw1_roomy.marks (A0 : Option Addr) (c0 : Nat) (l0 : List Int) (w : World) (hr0 : Kd.C (Kd.int .u8) w A0 l0.length l0) (hc0 : l0.length ≤ c0) (hl : l0.length < 140737488355326) :
    Calls Try.prog 11 #[.slice A0 l0.length c0] w fun e w' => ∃ (g cap : Nat), e = .returned (.slice (some ⟨g, 0, none⟩) l0.length cap) ∧ l0.length + 2 ≤ cap ∧
      Kd.R (Kd.int .u8) 5 w' w.heap.size (fun _ => True) (.slice (some ⟨g, 0, none⟩) (l0 ++ [77, 78]).length cap) (l0 ++ [77, 78]) ∧ Below w.heap.size w w' := by
  have HR0 := Aside0.mk hr0
  have HL := Aside0.mk hl
  clear hr0 hl
  go_enter Try.func11, Try.ntmps11
  go_wp2_with (first
    | ((with_reducible refine gate_builtin (b := .append) (xs := #[.tmp 7, .tmp 8]) rfl ?_); at_builtin; refine Kd.R_append_rows (Kd.int .u8) (w0 := w) w.heap.size rfl (.tmp 7) (.tmp 8) 22 5 (.int .u8 0) 1 rfl Try.underlying22 info5 rfl (by decide) (by omega) (.slice none 0 0) ([] : List Int) l0 _ _ _ (fun _ => True) (fun _ => False) rfl rfl ?aO ?aR (fun _ _ h => h) (fun _ h => h.elim) ?aF ?aB ?aS ?aL ?_; (case aR => exact HR0.out); (case aB => exact Below.refl _ _); (case aF => exact (fun _ _ => trivial)); (case aO => exact ((Kd.R_nil _ _ _ _ (fun _ => True)))); (case aS => exact Nat.le_refl _); (case aL => have := HL.out; simp; omega); intro v102 w6 ho hb hg hat; rw [List.nil_append] at ho; have HB1 := Aside0.mk hb; have HO1 := Aside0.mk ho; clear ho hb hg hat)
    | ((with_reducible refine gate_dst (N := 11) rfl ?_); refine Kd.R_lit (Kd.int .u8) _ 5 ?hg (N := 11) ?hd (xs := ([77, 78] : List Int)) (inner := [.int .u8 77, .int .u8 78]) (ok := fun _ => True) (okp := fun _ => True) ?hr ?hp (fun _ hk => hk) trivial (Below.refl _ _) (Nat.le_refl _) (by simp) ?_; (case hd => rfl); (case hg => rfl); (case hr => first | (go_simp; done) | (go_simp; rfl)); (case hp => exact (Reps.one (show Kd.M (Kd.int .u8) _ _ _ 77 [.int .u8 77] from rfl) (Reps.one (show Kd.M (Kd.int .u8) _ _ _ 78 [.int .u8 78] from rfl) (Reps.none _ _)))); intro v105 w7 ho8 hb hg_ hnew_; clear hg_ hnew_; have HO2 := Aside0.mk (Kd.R_elder' HO1.out (Kd.R_base ho8) hb); have HO3 := Aside0.mk ho8; have HB2 := Aside0.mk (below_step HB1.out hb); clear hb ho8; obtain ⟨Ao10, co10, eo10⟩ := Kd.R_slice HO3.out; subst eo10)
    | ((with_reducible refine gate_builtin (b := .append) (xs := #[.tmp 10, .tmp 11]) rfl ?_); at_builtin; refine Kd.R_append_rows (Kd.int .u8) (w0 := w) w.heap.size rfl (.tmp 10) (.tmp 11) 22 5 (.int .u8 0) 1 rfl Try.underlying22 info5 rfl (by decide) (by omega) v102 l0 [77, 78] _ _ _ (fun _ => True) (fun _ => False) rfl rfl ?bO ?bR (fun _ _ h => h) (fun _ h => h.elim) ?bF ?bB ?bS ?bL ?_; (case bR => exact (Kd.R_reads' HO3.out).2.2); (case bB => exact HB2.out); (case bF => exact (fun _ _ => trivial)); (case bO => exact Kd.R_mono HO2.out (fun _ _ => trivial)); (case bS => exact below_size HB2.out); (case bL => have := HL.out; simp; omega); intro v108 w9 ho hb hg hat; obtain ⟨g, cap, he, _⟩ := Kd.R_form ho (by simp); subst he; have hcap := (Kd.R_reads' ho).2.1; obtain ⟨i0, hi0, _, _, _⟩ := info_parts info5; have hcut := fun n_ => cut_cap (P := Try.prog) 22 5 Try.underlying22 hi0 (some ⟨g, 0, none⟩) n_ cap l0.length (by simp at hcap; omega); have HO4 := Aside0.mk ho; have HB4 := Aside0.mk hb; have HCAP := Aside0.mk hcap; clear ho hb hg hat hi0 hcap))
  go_ret
  exact ⟨g, cap, rfl, by have := HCAP.out; simp at this; omega, HO4.out, HB4.out⟩
theorem endonymlaw1_roomy.calls (A0 : Option Addr) (c0 : Nat) (l0 : List Int) (r : List Int) (w : World) (hr0 : Kd.C (Kd.int .u8) w A0 l0.length l0) (hc0 : l0.length ≤ c0) (h : endonymlaw1_roomy.f l0 = some r) :
    Calls Try.prog 11 #[.slice A0 l0.length c0] w fun e w' => ∃ v0_ : Value, e = .returned (v0_) ∧ Kd.R (Kd.int .u8) 5 w' w.heap.size (fun _ => True) v0_ r ∧ Below w.heap.size w w' := by
  unfold endonymlaw1_roomy.f at h
  by_cases hl : l0.length < 140737488355326
  · rw [if_pos hl] at h
    obtain rfl := Option.some.inj h
    refine (endonymlaw1_roomy.marks A0 c0 l0 w hr0 hc0 hl).mono ?_
    rintro e w' ⟨g, cap, rfl, hcap, hR, hb⟩
    have := Kd.R_take (m := l0.length) hR (by simp)
    rw [List.take_left] at this
    exact ⟨_, rfl, this, hb⟩
  · rw [if_neg hl] at h
    cases h

/-! ### wire_ReadUint: function 12 -/
mutual
def wire_ReadUint.j0 : Nat → List Int → Int → Int → Bool → Option (Int × Int × Int)
 | 0, _, _, _, _ => none
 | k + 1, x0, x1, x4, x16 => if x16 = true then (some (0, 0, 1)) else (wire_ReadUint.l0 k x0 x1 x4 0)
def wire_ReadUint.l0 : Nat → List Int → Int → Int → Int → Option (Int × Int × Int)
 | 0, _, _, _, _ => none
 | k + 1, x0, x1, x4, x17 => if x17 < 9 then (if (wrap64 (x1 + x17)) ≥ (x0.length : Int) then (some (0, 0, 10)) else (if 0 ≤ (wrap64 (x1 + x17)) then (if (wrap64 (x1 + x17)) < (x0.length : Int) then (if 0 ≤ (wrap64 (7 * x17)) then (if (rd x0 (wrap64 (x1 + x17))) < 128 then (if (rd x0 (wrap64 (x1 + x17))) = 0 then (if x17 > 0 then (some (0, 0, 12)) else (some (Go.bits .or .i64 x4 (shl .i64 (wrap64 (Go.bits .and .u8 (rd x0 (wrap64 (x1 + x17))) 127)) (wrap64 (7 * x17))), wrap64 ((wrap64 (x1 + x17)) + 1), 0))) else (some (Go.bits .or .i64 x4 (shl .i64 (wrap64 (Go.bits .and .u8 (rd x0 (wrap64 (x1 + x17))) 127)) (wrap64 (7 * x17))), wrap64 ((wrap64 (x1 + x17)) + 1), 0))) else (wire_ReadUint.l0 k x0 x1 (Go.bits .or .i64 x4 (shl .i64 (wrap64 (Go.bits .and .u8 (rd x0 (wrap64 (x1 + x17))) 127)) (wrap64 (7 * x17)))) (wrap64 (x17 + 1)))) else (none)) else (none)) else (none))) else (some (0, 0, 11))
end
def wire_ReadUint.f (k : Nat) (l0 : List Int) (a1 : Int) : Option (Int × Int × Int) := if a1 < 0 then (wire_ReadUint.j0 k l0 a1 0 true) else (wire_ReadUint.j0 k l0 a1 0 (decide (a1 > (l0.length : Int))))
theorem wire_ReadUint.mono_l : ∀ k, (∀ y0 y1 y2 y3, LeO (wire_ReadUint.j0 k y0 y1 y2 y3) (wire_ReadUint.j0 (k + 1) y0 y1 y2 y3)) ∧ (∀ y0 y1 y2 y3, LeO (wire_ReadUint.l0 k y0 y1 y2 y3) (wire_ReadUint.l0 (k + 1) y0 y1 y2 y3))
 | 0 => ⟨fun _ _ _ _ r h => by simp [wire_ReadUint.j0] at h, fun _ _ _ _ r h => by simp [wire_ReadUint.l0] at h⟩
 | k + 1 => by
  obtain ⟨ih0, ih1⟩ := wire_ReadUint.mono_l k
  refine ⟨?_, ?_⟩
  ·intro y0 y1 y2 y3
   unfold wire_ReadUint.j0
   repeat' first
   | (with_reducible exact ih0 _ _ _ _)
   | (with_reducible exact ih1 _ _ _ _)
   | (with_reducible exact LeO.refl _)
   | (with_reducible exact LeO.none _)
   | (with_reducible refine LeO.ite ?_ ?_)
   | (with_reducible refine LeO.bind ?_ (fun _ => ?_))
   | exact ih0 _ _ _ _
   | exact ih1 _ _ _ _
   | exact LeO.none _
   | refine LeO.ite ?_ ?_
   | refine LeO.bind ?_ (fun _ => ?_)
  ·intro y0 y1 y2 y3
   unfold wire_ReadUint.l0
   repeat' first
   | (with_reducible exact ih0 _ _ _ _)
   | (with_reducible exact ih1 _ _ _ _)
   | (with_reducible exact LeO.refl _)
   | (with_reducible exact LeO.none _)
   | (with_reducible refine LeO.ite ?_ ?_)
   | (with_reducible refine LeO.bind ?_ (fun _ => ?_))
   | exact ih0 _ _ _ _
   | exact ih1 _ _ _ _
   | exact LeO.none _
   | refine LeO.ite ?_ ?_
   | refine LeO.bind ?_ (fun _ => ?_)
theorem wire_ReadUint.mono : ∀ a0 a1 k, LeO (wire_ReadUint.f k a0 a1) (wire_ReadUint.f (k + 1) a0 a1) := by
 intro a0 a1 k
 obtain ⟨ih0, ih1⟩ := wire_ReadUint.mono_l k
 unfold wire_ReadUint.f
 repeat' first
   | (with_reducible exact ih0 _ _ _ _)
   | (with_reducible exact ih1 _ _ _ _)
   | (with_reducible exact LeO.refl _)
   | (with_reducible exact LeO.none _)
   | (with_reducible refine LeO.ite ?_ ?_)
   | (with_reducible refine LeO.bind ?_ (fun _ => ?_))
   | exact ih0 _ _ _ _
   | exact ih1 _ _ _ _
   | exact LeO.none _
   | refine LeO.ite ?_ ?_
   | refine LeO.bind ?_ (fun _ => ?_)
set_option maxHeartbeats 8000000 in
set_option maxRecDepth 100000 in
theorem wire_ReadUint.calls (k : Nat) (A0 : Option Addr) (c0 : Nat) (l0 : List Int) (a1 : Int) (r1 : Int) (r2 : Int) (r3 : Int) (w : World) (hr0 : Kd.C (Kd.int .u8) w A0 l0.length l0) (hc0 : l0.length ≤ c0) (h : wire_ReadUint.f k l0 a1 = some (r1, r2, r3)) :
  Calls Try.prog 12 #[.slice A0 l0.length c0, .int .i64 a1] w fun e w' => e = .returned (.tuple #[.int .i64 r1, .int .i64 r2, .int .i64 r3]) ∧ Drawn0 w w' := by
 have HR0 := Aside0.mk hr0
 have HC0 := Aside0.mk hc0
 clear hr0 hc0
 have H : (if a1 < 0 then (wire_ReadUint.j0 k l0 a1 0 true) else (wire_ReadUint.j0 k l0 a1 0 (decide (a1 > (l0.length : Int))))) = some (r1, r2, r3) := h
 clear h
 have HC3 := Aside0.mk H
 clear H
 go_enter Try.func12, Try.ntmps12
 go_upto_region 1 with (fail)
 go_cut [16] (fun v16 wc => ∃ (kq : Nat) (x16_2 : Bool), v16 = .bool x16_2 ∧ Aside0 (wire_ReadUint.j0 kq l0 a1 0 x16_2 = some (r1, r2, r3)) ∧ Aside0 (kq ≤ k) ∧ Drawn0 w wc)
 case first =>
  have H := HC3.out
  clear HC3
  by_cases c4 : a1 < 0
  ·rw [if_pos c4] at H
   have c4b0 : decide (a1 < 0) = true := decide_eq_true c4
   clear c4
   (first | rw [c4b0] | (simp only [i64_w, i32_w]; rw [c4b0]) | skip)
   have H' := Aside0.mk H
   clear H
   go_wp2
   go_meet
   case rel => exact ⟨_, (true), (by first | rfl | (simp; done) | (simp [*]; done)), H', ⟨by first | omega | exact Nat.le_refl _⟩, by repeat (first | exact Drawn0.refl _ | apply Drawn0.step)⟩
  ·rw [if_neg c4] at H
   have c4b0 : decide (a1 < 0) = false := decide_eq_false c4
   clear c4
   (first | rw [c4b0] | (simp only [i64_w, i32_w]; rw [c4b0]) | skip)
   have H' := Aside0.mk H
   clear H
   go_wp2
   go_meet
   case rel => exact ⟨_, (decide (a1 > (l0.length : Int))), (by first | rfl | (simp; done) | (simp [*]; done)), H', ⟨by first | omega | exact Nat.le_refl _⟩, by repeat (first | exact Drawn0.refl _ | apply Drawn0.step)⟩
 case rest =>
  clear HC3
  try clear c1
  try clear p2
  try clear c4
  try clear c4b0
  obtain ⟨kq, x16_2, rfl, HA, HJ2, ⟨mc2, rfl⟩⟩ := hcut
  cases kq with
  | zero => exact absurd HA.out (by simp [wire_ReadUint.j0])
  | succ kj2 =>
   have H := HA.out
   clear HA
   simp only [wire_ReadUint.j0] at H
   by_cases c5 : x16_2 = true
   ·subst c5
    have H1 : (some (0, 0, 1)) = some (r1, r2, r3) := by rw [if_pos rfl] at H; exact H
    clear H
    have H := H1
    clear H1
    simp only [Option.some.injEq, Prod.mk.injEq] at H
    obtain ⟨rfl, rfl, rfl⟩ := H
    go_wp2
    go_ret3
    exact ⟨by first | rfl | (simp; done) | (simp [*]; done), by repeat (first | exact Drawn0.refl _ | apply Drawn0.step)⟩
   ·replace c5 := Bool.eq_false_iff.mpr c5
    subst c5
    have H1 : (wire_ReadUint.l0 kj2 l0 a1 0 0) = some (r1, r2, r3) := by rw [if_neg (show ¬ (false = true) by decide)] at H; exact H
    clear H
    have H := H1
    clear H1
    have H' := Aside0.mk H
    clear H
    go_wp2
    go_loopg [4, 17] kj2 (fun kq v4 v17 w' => ∃ (x4_2 : Int) (x17_2 : Int), v4 = .int .i64 x4_2 ∧ v17 = .int .i64 x17_2 ∧ Aside0 (wire_ReadUint.l0 kq l0 a1 x4_2 x17_2 = some (r1, r2, r3)) ∧ Aside0 (kq ≤ kj2) ∧ Drawn0 w w')
    case atStart => exact ⟨(0), (0), (by first | rfl | (simp; done) | (simp [*]; done)), (by first | rfl | (simp; done) | (simp [*]; done)), H', ⟨Nat.le_refl _⟩, by repeat (first | exact Drawn0.refl _ | apply Drawn0.step)⟩
    case round =>
     clear H'
     try clear c1
     try clear c2
     try clear p2
     try clear c4
     try clear c4b0
     try clear c5
     try clear p2
     obtain ⟨x4_2, x17_2, rfl, rfl, HA, HK2, ⟨m2, rfl⟩⟩ := hrel
     cases gk with
     | zero => exact absurd HA.out (by simp [wire_ReadUint.l0])
     | succ k2 =>
      have H := HA.out
      clear HA
      simp only [wire_ReadUint.l0] at H
      by_cases c6 : x17_2 < 9
      ·rw [if_pos c6] at H
       have c6b0 : decide (x17_2 < 9) = true := decide_eq_true c6
       clear c6
       by_cases c7 : (wrap64 (a1 + x17_2)) ≥ (l0.length : Int)
       ·rw [if_pos c7] at H
        have c7b0 : decide ((l0.length : Int) ≤ (wrap64 (a1 + x17_2))) = true := decide_eq_true c7
        clear c7
        simp only [Option.some.injEq, Prod.mk.injEq] at H
        obtain ⟨rfl, rfl, rfl⟩ := H
        go_wp2
        go_ret3
        exact ⟨by first | rfl | (simp; done) | (simp [*]; done), by repeat (first | exact Drawn0.refl _ | apply Drawn0.step)⟩
       ·rw [if_neg c7] at H
        have c7b0 : decide ((l0.length : Int) ≤ (wrap64 (a1 + x17_2))) = false := decide_eq_false c7
        clear c7
        obtain ⟨ji8, hji8⟩ : ∃ j_ : Int, (wrap64 (a1 + x17_2)) = j_ := ⟨_, rfl⟩
        replace H : (if 0 ≤ (ji8) then (if (ji8) < (l0.length : Int) then (if 0 ≤ (wrap64 (7 * x17_2)) then (if (rd l0 (ji8)) < 128 then (if (rd l0 (ji8)) = 0 then (if x17_2 > 0 then (some (0, 0, 12)) else (some (Go.bits .or .i64 x4_2 (shl .i64 (wrap64 (Go.bits .and .u8 (rd l0 (ji8)) 127)) (wrap64 (7 * x17_2))), wrap64 ((ji8) + 1), 0))) else (some (Go.bits .or .i64 x4_2 (shl .i64 (wrap64 (Go.bits .and .u8 (rd l0 (ji8)) 127)) (wrap64 (7 * x17_2))), wrap64 ((ji8) + 1), 0))) else (wire_ReadUint.l0 k2 l0 a1 (Go.bits .or .i64 x4_2 (shl .i64 (wrap64 (Go.bits .and .u8 (rd l0 (ji8)) 127)) (wrap64 (7 * x17_2)))) (wrap64 (x17_2 + 1)))) else (none)) else (none)) else (none)) = some (r1, r2, r3) := by first | (rw [hji8] at H; exact H) | (simp only [hji8] at H ⊢; exact H)
        (try rw [hji8] at c7b0)
        have hji8w : (IntKind.i64.wrap (a1 + x17_2)) = ji8 := (i64_w _).trans hji8
        by_cases c9 : 0 ≤ (ji8)
        ·rw [if_pos c9] at H
         have c9b0 : decide (0 ≤ (ji8)) = true := decide_eq_true c9
         clear c9
         by_cases c10 : (ji8) < (l0.length : Int)
         ·rw [if_pos c10] at H
          have c10b0 : decide ((ji8) < (l0.length : Int)) = true := decide_eq_true c10
          clear c10
          obtain ⟨ji11, hji11⟩ : ∃ j_ : Int, (wrap64 (7 * x17_2)) = j_ := ⟨_, rfl⟩
          replace H : (if 0 ≤ (ji11) then (if (rd l0 (ji8)) < 128 then (if (rd l0 (ji8)) = 0 then (if x17_2 > 0 then (some (0, 0, 12)) else (some (Go.bits .or .i64 x4_2 (shl .i64 (wrap64 (Go.bits .and .u8 (rd l0 (ji8)) 127)) (ji11)), wrap64 ((ji8) + 1), 0))) else (some (Go.bits .or .i64 x4_2 (shl .i64 (wrap64 (Go.bits .and .u8 (rd l0 (ji8)) 127)) (ji11)), wrap64 ((ji8) + 1), 0))) else (wire_ReadUint.l0 k2 l0 a1 (Go.bits .or .i64 x4_2 (shl .i64 (wrap64 (Go.bits .and .u8 (rd l0 (ji8)) 127)) (ji11))) (wrap64 (x17_2 + 1)))) else (none)) = some (r1, r2, r3) := by first | (rw [hji11] at H; exact H) | (simp only [hji11] at H ⊢; exact H)
          have hji11w : (IntKind.i64.wrap (7 * x17_2)) = ji11 := (i64_w _).trans hji11
          by_cases c12 : 0 ≤ (ji11)
          ·rw [if_pos c12] at H
           have c12b0 := eq_true c12
           have c12b1 : decide (0 ≤ (ji11)) = true := decide_eq_true c12
           clear c12
           obtain ⟨ji13, hji13⟩ : ∃ j_ : Int, (shl .i64 (wrap64 (Go.bits .and .u8 (rd l0 (ji8)) 127)) (ji11)) = j_ := ⟨_, rfl⟩
           replace H : (if (rd l0 (ji8)) < 128 then (if (rd l0 (ji8)) = 0 then (if x17_2 > 0 then (some (0, 0, 12)) else (some (Go.bits .or .i64 x4_2 (ji13), wrap64 ((ji8) + 1), 0))) else (some (Go.bits .or .i64 x4_2 (ji13), wrap64 ((ji8) + 1), 0))) else (wire_ReadUint.l0 k2 l0 a1 (Go.bits .or .i64 x4_2 (ji13)) (wrap64 (x17_2 + 1)))) = some (r1, r2, r3) := by first | (rw [hji13] at H; exact H) | (simp only [hji13] at H ⊢; exact H)
           have hji13_ : (IntKind.i64.wrap ((wrap64 (Go.bits .and .u8 (rd l0 (ji8)) 127)) * 2 ^ min (ji11).toNat 64)) = ji13 := hji13
           have hji13z : (ji11) ≤ 64 → (IntKind.i64.wrap ((wrap64 (Go.bits .and .u8 (rd l0 (ji8)) 127)) * 2 ^ (ji11).toNat)) = ji13 := shl_small hji13
           have hji13y : (wrap64 ((wrap64 (Go.bits .and .u8 (rd l0 (ji8)) 127)) * 2 ^ min (ji11).toNat 64)) = ji13 := (i64_w _).symm.trans hji13_
           have hji13x : (ji11) ≤ 64 → (wrap64 ((wrap64 (Go.bits .and .u8 (rd l0 (ji8)) 127)) * 2 ^ (ji11).toNat)) = ji13 := fun h_ => (i64_w _).symm.trans (hji13z h_)
           by_cases c14 : (rd l0 (ji8)) < 128
           ·rw [if_pos c14] at H
            have c14b0 : decide ((rd l0 (ji8)) < 128) = true := decide_eq_true c14
            clear c14
            by_cases c15 : (rd l0 (ji8)) = 0
            ·rw [if_pos c15] at H
             have c15b0 : ((rd l0 (ji8)) == 0) = true := beq_iff_eq.mpr c15
             have c15b1 : ((rd l0 (ji8)) != 0) = false := bne_eq_false_iff_eq.mpr c15
             clear c15
             by_cases c16 : x17_2 > 0
             ·rw [if_pos c16] at H
              have c16b0 : decide (0 < x17_2) = true := decide_eq_true c16
              clear c16
              simp only [Option.some.injEq, Prod.mk.injEq] at H
              obtain ⟨rfl, rfl, rfl⟩ := H
              have p101 : 0 ≤ ((ji8) : Int) := of_decide_eq_true (by first | (with_reducible assumption) | assumption)
              have q101 : (ji8) < (l0.length : Int) := of_decide_eq_true (by first | (with_reducible assumption) | assumption)
              obtain ⟨ad101, e101, hx101_0⟩ := Kd.at_int HR0.out (ji8) p101 q101
              cases e101
              replace p101 := eq_true p101
              replace q101 := eq_true q101
              go_wp2
              go_ret3
              exact ⟨by first | rfl | (simp; done) | (simp only [← hji8, ← hji11, ← hji13] <;> (first | rfl | simp)) | (simp [*]; done), by repeat (first | exact Drawn0.refl _ | apply Drawn0.step)⟩
             ·rw [if_neg c16] at H
              have c16b0 : decide (0 < x17_2) = false := decide_eq_false c16
              clear c16
              simp only [Option.some.injEq, Prod.mk.injEq] at H
              obtain ⟨rfl, rfl, rfl⟩ := H
              have p101 : 0 ≤ ((ji8) : Int) := of_decide_eq_true (by first | (with_reducible assumption) | assumption)
              have q101 : (ji8) < (l0.length : Int) := of_decide_eq_true (by first | (with_reducible assumption) | assumption)
              obtain ⟨ad101, e101, hx101_0⟩ := Kd.at_int HR0.out (ji8) p101 q101
              cases e101
              replace p101 := eq_true p101
              replace q101 := eq_true q101
              go_wp2
              go_ret3
              exact ⟨by first | rfl | (simp; done) | (simp only [← hji8, ← hji11, ← hji13] <;> (first | rfl | simp)) | (simp [*]; done), by repeat (first | exact Drawn0.refl _ | apply Drawn0.step)⟩
            ·rw [if_neg c15] at H
             have c15b0 : ((rd l0 (ji8)) == 0) = false := beq_eq_false_iff_ne.mpr c15
             have c15b1 : ((rd l0 (ji8)) != 0) = true := bne_iff_ne.mpr c15
             simp only [Option.some.injEq, Prod.mk.injEq] at H
             obtain ⟨rfl, rfl, rfl⟩ := H
             have p101 : 0 ≤ ((ji8) : Int) := of_decide_eq_true (by first | (with_reducible assumption) | assumption)
             have q101 : (ji8) < (l0.length : Int) := of_decide_eq_true (by first | (with_reducible assumption) | assumption)
             obtain ⟨ad101, e101, hx101_0⟩ := Kd.at_int HR0.out (ji8) p101 q101
             cases e101
             replace p101 := eq_true p101
             replace q101 := eq_true q101
             go_wp2
             go_ret3
             exact ⟨by first | rfl | (simp; done) | (simp only [← hji8, ← hji11, ← hji13] <;> (first | rfl | simp)) | (simp [*]; done), by repeat (first | exact Drawn0.refl _ | apply Drawn0.step)⟩
           ·rw [if_neg c14] at H
            have c14b0 : decide ((rd l0 (ji8)) < 128) = false := decide_eq_false c14
            clear c14
            have H' := Aside0.mk H
            clear H
            have p101 : 0 ≤ ((ji8) : Int) := of_decide_eq_true (by first | (with_reducible assumption) | assumption)
            have q101 : (ji8) < (l0.length : Int) := of_decide_eq_true (by first | (with_reducible assumption) | assumption)
            obtain ⟨ad101, e101, hx101_0⟩ := Kd.at_int HR0.out (ji8) p101 q101
            cases e101
            replace p101 := eq_true p101
            replace q101 := eq_true q101
            go_wp2
            go_roundg k2
            case measure => have := HJ2.out; have := HK2.out; omega
            case rel => exact ⟨(Go.bits .or .i64 x4_2 (ji13)), (wrap64 (x17_2 + 1)), (by first | rfl | (simp; done) | (simp only [← hji13] <;> (first | rfl | simp)) | (simp [*]; done)), (by first | rfl | (simp; done) | (simp [*]; done)), H', ⟨by have := HJ2.out; have := HK2.out; omega⟩, by repeat (first | exact Drawn0.refl _ | apply Drawn0.step)⟩
          ·rw [if_neg c12] at H
           exact absurd H (by simp)
         ·rw [if_neg c10] at H
          exact absurd H (by simp)
        ·rw [if_neg c9] at H
         exact absurd H (by simp)
      ·rw [if_neg c6] at H
       have c6b0 : decide (x17_2 < 9) = false := decide_eq_false c6
       clear c6
       simp only [Option.some.injEq, Prod.mk.injEq] at H
       obtain ⟨rfl, rfl, rfl⟩ := H
       go_wp2
       go_ret3
       exact ⟨by first | rfl | (simp; done) | (simp [*]; done), by repeat (first | exact Drawn0.refl _ | apply Drawn0.step)⟩

/-! ### endonymref1_ReadUint: function 13 -/
mutual
def endonymref1_ReadUint.j0 : Nat → List Int → Int → Bool → Option (Int × Int × Int)
 | 0, _, _, _ => none
 | k + 1, x0, x1, x17 => if x17 = true then (some (0, 0, 1)) else (endonymref1_ReadUint.l0 k x0 x1 0 0)
def endonymref1_ReadUint.l0 : Nat → List Int → Int → Int → Int → Option (Int × Int × Int)
 | 0, _, _, _, _ => none
 | k + 1, x0, x1, x7, x8 => if x8 < 9 then (if (wrap64 (x1 + x8)) = (x0.length : Int) then (some (0, 0, 10)) else (if 0 ≤ (wrap64 (x1 + x8)) then (if (wrap64 (x1 + x8)) < (x0.length : Int) then (if 0 ≤ (IntKind.u64.wrap (wrap64 (7 * x8))) then (if (wrap64 (rd x0 (wrap64 (x1 + x8)))) < 128 then (if (wrap64 (rd x0 (wrap64 (x1 + x8)))) = 0 then (if x8 > 0 then (some (0, 0, 12)) else (some (wrap64 (x7 + (shl .i64 (Int.tmod (wrap64 (rd x0 (wrap64 (x1 + x8)))) 128) (IntKind.u64.wrap (wrap64 (7 * x8))))), wrap64 ((wrap64 (x1 + x8)) + 1), 0))) else (some (wrap64 (x7 + (shl .i64 (Int.tmod (wrap64 (rd x0 (wrap64 (x1 + x8)))) 128) (IntKind.u64.wrap (wrap64 (7 * x8))))), wrap64 ((wrap64 (x1 + x8)) + 1), 0))) else (endonymref1_ReadUint.l0 k x0 x1 (wrap64 (x7 + (shl .i64 (Int.tmod (wrap64 (rd x0 (wrap64 (x1 + x8)))) 128) (IntKind.u64.wrap (wrap64 (7 * x8)))))) (wrap64 (x8 + 1)))) else (none)) else (none)) else (none))) else (some (0, 0, 11))
end
def endonymref1_ReadUint.f (k : Nat) (l0 : List Int) (a1 : Int) : Option (Int × Int × Int) := if a1 < 0 then (endonymref1_ReadUint.j0 k l0 a1 true) else (endonymref1_ReadUint.j0 k l0 a1 (decide (a1 > (l0.length : Int))))
theorem endonymref1_ReadUint.mono_l : ∀ k, (∀ y0 y1 y2, LeO (endonymref1_ReadUint.j0 k y0 y1 y2) (endonymref1_ReadUint.j0 (k + 1) y0 y1 y2)) ∧ (∀ y0 y1 y2 y3, LeO (endonymref1_ReadUint.l0 k y0 y1 y2 y3) (endonymref1_ReadUint.l0 (k + 1) y0 y1 y2 y3))
 | 0 => ⟨fun _ _ _ r h => by simp [endonymref1_ReadUint.j0] at h, fun _ _ _ _ r h => by simp [endonymref1_ReadUint.l0] at h⟩
 | k + 1 => by
  obtain ⟨ih0, ih1⟩ := endonymref1_ReadUint.mono_l k
  refine ⟨?_, ?_⟩
  ·intro y0 y1 y2
   unfold endonymref1_ReadUint.j0
   repeat' first
   | (with_reducible exact ih0 _ _ _)
   | (with_reducible exact ih1 _ _ _ _)
   | (with_reducible exact LeO.refl _)
   | (with_reducible exact LeO.none _)
   | (with_reducible refine LeO.ite ?_ ?_)
   | (with_reducible refine LeO.bind ?_ (fun _ => ?_))
   | exact ih0 _ _ _
   | exact ih1 _ _ _ _
   | exact LeO.none _
   | refine LeO.ite ?_ ?_
   | refine LeO.bind ?_ (fun _ => ?_)
  ·intro y0 y1 y2 y3
   unfold endonymref1_ReadUint.l0
   repeat' first
   | (with_reducible exact ih0 _ _ _)
   | (with_reducible exact ih1 _ _ _ _)
   | (with_reducible exact LeO.refl _)
   | (with_reducible exact LeO.none _)
   | (with_reducible refine LeO.ite ?_ ?_)
   | (with_reducible refine LeO.bind ?_ (fun _ => ?_))
   | exact ih0 _ _ _
   | exact ih1 _ _ _ _
   | exact LeO.none _
   | refine LeO.ite ?_ ?_
   | refine LeO.bind ?_ (fun _ => ?_)
theorem endonymref1_ReadUint.mono : ∀ a0 a1 k, LeO (endonymref1_ReadUint.f k a0 a1) (endonymref1_ReadUint.f (k + 1) a0 a1) := by
 intro a0 a1 k
 obtain ⟨ih0, ih1⟩ := endonymref1_ReadUint.mono_l k
 unfold endonymref1_ReadUint.f
 repeat' first
   | (with_reducible exact ih0 _ _ _)
   | (with_reducible exact ih1 _ _ _ _)
   | (with_reducible exact LeO.refl _)
   | (with_reducible exact LeO.none _)
   | (with_reducible refine LeO.ite ?_ ?_)
   | (with_reducible refine LeO.bind ?_ (fun _ => ?_))
   | exact ih0 _ _ _
   | exact ih1 _ _ _ _
   | exact LeO.none _
   | refine LeO.ite ?_ ?_
   | refine LeO.bind ?_ (fun _ => ?_)
set_option maxHeartbeats 8000000 in
set_option maxRecDepth 100000 in
theorem endonymref1_ReadUint.calls (k : Nat) (A0 : Option Addr) (c0 : Nat) (l0 : List Int) (a1 : Int) (r1 : Int) (r2 : Int) (r3 : Int) (w : World) (hr0 : Kd.C (Kd.int .u8) w A0 l0.length l0) (hc0 : l0.length ≤ c0) (h : endonymref1_ReadUint.f k l0 a1 = some (r1, r2, r3)) :
  Calls Try.prog 13 #[.slice A0 l0.length c0, .int .i64 a1] w fun e w' => e = .returned (.tuple #[.int .i64 r1, .int .i64 r2, .int .i64 r3]) ∧ Drawn0 w w' := by
 have HR0 := Aside0.mk hr0
 have HC0 := Aside0.mk hc0
 clear hr0 hc0
 have H : (if a1 < 0 then (endonymref1_ReadUint.j0 k l0 a1 true) else (endonymref1_ReadUint.j0 k l0 a1 (decide (a1 > (l0.length : Int))))) = some (r1, r2, r3) := h
 clear h
 have HC3 := Aside0.mk H
 clear H
 go_enter Try.func13, Try.ntmps13
 go_upto_region 1 with (fail)
 go_cut [17] (fun v17 wc => ∃ (kq : Nat) (x17_2 : Bool), v17 = .bool x17_2 ∧ Aside0 (endonymref1_ReadUint.j0 kq l0 a1 x17_2 = some (r1, r2, r3)) ∧ Aside0 (kq ≤ k) ∧ Drawn0 w wc)
 case first =>
  have H := HC3.out
  clear HC3
  by_cases c4 : a1 < 0
  ·rw [if_pos c4] at H
   have c4b0 : decide (a1 < 0) = true := decide_eq_true c4
   clear c4
   (first | rw [c4b0] | (simp only [i64_w, i32_w]; rw [c4b0]) | skip)
   have H' := Aside0.mk H
   clear H
   go_wp2
   go_meet
   case rel => exact ⟨_, (true), (by first | rfl | (simp; done) | (simp [*]; done)), H', ⟨by first | omega | exact Nat.le_refl _⟩, by repeat (first | exact Drawn0.refl _ | apply Drawn0.step)⟩
  ·rw [if_neg c4] at H
   have c4b0 : decide (a1 < 0) = false := decide_eq_false c4
   clear c4
   (first | rw [c4b0] | (simp only [i64_w, i32_w]; rw [c4b0]) | skip)
   have H' := Aside0.mk H
   clear H
   go_wp2
   go_meet
   case rel => exact ⟨_, (decide (a1 > (l0.length : Int))), (by first | rfl | (simp; done) | (simp [*]; done)), H', ⟨by first | omega | exact Nat.le_refl _⟩, by repeat (first | exact Drawn0.refl _ | apply Drawn0.step)⟩
 case rest =>
  clear HC3
  try clear c1
  try clear p2
  try clear c4
  try clear c4b0
  obtain ⟨kq, x17_2, rfl, HA, HJ2, ⟨mc2, rfl⟩⟩ := hcut
  cases kq with
  | zero => exact absurd HA.out (by simp [endonymref1_ReadUint.j0])
  | succ kj2 =>
   have H := HA.out
   clear HA
   simp only [endonymref1_ReadUint.j0] at H
   by_cases c5 : x17_2 = true
   ·subst c5
    have H1 : (some (0, 0, 1)) = some (r1, r2, r3) := by rw [if_pos rfl] at H; exact H
    clear H
    have H := H1
    clear H1
    simp only [Option.some.injEq, Prod.mk.injEq] at H
    obtain ⟨rfl, rfl, rfl⟩ := H
    go_wp2
    go_ret3
    exact ⟨by first | rfl | (simp; done) | (simp [*]; done), by repeat (first | exact Drawn0.refl _ | apply Drawn0.step)⟩
   ·replace c5 := Bool.eq_false_iff.mpr c5
    subst c5
    have H1 : (endonymref1_ReadUint.l0 kj2 l0 a1 0 0) = some (r1, r2, r3) := by rw [if_neg (show ¬ (false = true) by decide)] at H; exact H
    clear H
    have H := H1
    clear H1
    have H' := Aside0.mk H
    clear H
    go_wp2
    go_loopg [7, 8] kj2 (fun kq v7 v8 w' => ∃ (x7_2 : Int) (x8_2 : Int), v7 = .int .i64 x7_2 ∧ v8 = .int .i64 x8_2 ∧ Aside0 (endonymref1_ReadUint.l0 kq l0 a1 x7_2 x8_2 = some (r1, r2, r3)) ∧ Aside0 (kq ≤ kj2) ∧ Drawn0 w w')
    case atStart => exact ⟨(0), (0), (by first | rfl | (simp; done) | (simp [*]; done)), (by first | rfl | (simp; done) | (simp [*]; done)), H', ⟨Nat.le_refl _⟩, by repeat (first | exact Drawn0.refl _ | apply Drawn0.step)⟩
    case round =>
     clear H'
     try clear c1
     try clear c2
     try clear p2
     try clear c4
     try clear c4b0
     try clear c5
     try clear p2
     obtain ⟨x7_2, x8_2, rfl, rfl, HA, HK2, ⟨m2, rfl⟩⟩ := hrel
     cases gk with
     | zero => exact absurd HA.out (by simp [endonymref1_ReadUint.l0])
     | succ k2 =>
      have H := HA.out
      clear HA
      simp only [endonymref1_ReadUint.l0] at H
      by_cases c6 : x8_2 < 9
      ·rw [if_pos c6] at H
       have c6b0 : decide (x8_2 < 9) = true := decide_eq_true c6
       clear c6
       by_cases c7 : (wrap64 (a1 + x8_2)) = (l0.length : Int)
       ·rw [if_pos c7] at H
        have c7b0 : ((wrap64 (a1 + x8_2)) == (l0.length : Int)) = true := beq_iff_eq.mpr c7
        have c7b1 : ((wrap64 (a1 + x8_2)) != (l0.length : Int)) = false := bne_eq_false_iff_eq.mpr c7
        clear c7
        simp only [Option.some.injEq, Prod.mk.injEq] at H
        obtain ⟨rfl, rfl, rfl⟩ := H
        go_wp2
        go_ret3
        exact ⟨by first | rfl | (simp; done) | (simp [*]; done), by repeat (first | exact Drawn0.refl _ | apply Drawn0.step)⟩
       ·rw [if_neg c7] at H
        have c7b0 : ((wrap64 (a1 + x8_2)) == (l0.length : Int)) = false := beq_eq_false_iff_ne.mpr c7
        have c7b1 : ((wrap64 (a1 + x8_2)) != (l0.length : Int)) = true := bne_iff_ne.mpr c7
        obtain ⟨ji8, hji8⟩ : ∃ j_ : Int, (wrap64 (a1 + x8_2)) = j_ := ⟨_, rfl⟩
        replace H : (if 0 ≤ (ji8) then (if (ji8) < (l0.length : Int) then (if 0 ≤ (IntKind.u64.wrap (wrap64 (7 * x8_2))) then (if (wrap64 (rd l0 (ji8))) < 128 then (if (wrap64 (rd l0 (ji8))) = 0 then (if x8_2 > 0 then (some (0, 0, 12)) else (some (wrap64 (x7_2 + (shl .i64 (Int.tmod (wrap64 (rd l0 (ji8))) 128) (IntKind.u64.wrap (wrap64 (7 * x8_2))))), wrap64 ((ji8) + 1), 0))) else (some (wrap64 (x7_2 + (shl .i64 (Int.tmod (wrap64 (rd l0 (ji8))) 128) (IntKind.u64.wrap (wrap64 (7 * x8_2))))), wrap64 ((ji8) + 1), 0))) else (endonymref1_ReadUint.l0 k2 l0 a1 (wrap64 (x7_2 + (shl .i64 (Int.tmod (wrap64 (rd l0 (ji8))) 128) (IntKind.u64.wrap (wrap64 (7 * x8_2)))))) (wrap64 (x8_2 + 1)))) else (none)) else (none)) else (none)) = some (r1, r2, r3) := by first | (rw [hji8] at H; exact H) | (simp only [hji8] at H ⊢; exact H)
        (try rw [hji8] at c7b0)
        (try rw [hji8] at c7b1)
        have hji8w : (IntKind.i64.wrap (a1 + x8_2)) = ji8 := (i64_w _).trans hji8
        by_cases c9 : 0 ≤ (ji8)
        ·rw [if_pos c9] at H
         have c9b0 : decide (0 ≤ (ji8)) = true := decide_eq_true c9
         clear c9
         by_cases c10 : (ji8) < (l0.length : Int)
         ·rw [if_pos c10] at H
          have c10b0 : decide ((ji8) < (l0.length : Int)) = true := decide_eq_true c10
          clear c10
          obtain ⟨ji11, hji11⟩ : ∃ j_ : Int, (IntKind.u64.wrap (wrap64 (7 * x8_2))) = j_ := ⟨_, rfl⟩
          replace H : (if 0 ≤ (ji11) then (if (wrap64 (rd l0 (ji8))) < 128 then (if (wrap64 (rd l0 (ji8))) = 0 then (if x8_2 > 0 then (some (0, 0, 12)) else (some (wrap64 (x7_2 + (shl .i64 (Int.tmod (wrap64 (rd l0 (ji8))) 128) (ji11))), wrap64 ((ji8) + 1), 0))) else (some (wrap64 (x7_2 + (shl .i64 (Int.tmod (wrap64 (rd l0 (ji8))) 128) (ji11))), wrap64 ((ji8) + 1), 0))) else (endonymref1_ReadUint.l0 k2 l0 a1 (wrap64 (x7_2 + (shl .i64 (Int.tmod (wrap64 (rd l0 (ji8))) 128) (ji11)))) (wrap64 (x8_2 + 1)))) else (none)) = some (r1, r2, r3) := by first | (rw [hji11] at H; exact H) | (simp only [hji11] at H ⊢; exact H)
          by_cases c12 : 0 ≤ (ji11)
          ·rw [if_pos c12] at H
           have c12b0 := eq_true c12
           have c12b1 : decide (0 ≤ (ji11)) = true := decide_eq_true c12
           clear c12
           obtain ⟨ji13, hji13⟩ : ∃ j_ : Int, (shl .i64 (Int.tmod (wrap64 (rd l0 (ji8))) 128) (ji11)) = j_ := ⟨_, rfl⟩
           replace H : (if (wrap64 (rd l0 (ji8))) < 128 then (if (wrap64 (rd l0 (ji8))) = 0 then (if x8_2 > 0 then (some (0, 0, 12)) else (some (wrap64 (x7_2 + (ji13)), wrap64 ((ji8) + 1), 0))) else (some (wrap64 (x7_2 + (ji13)), wrap64 ((ji8) + 1), 0))) else (endonymref1_ReadUint.l0 k2 l0 a1 (wrap64 (x7_2 + (ji13))) (wrap64 (x8_2 + 1)))) = some (r1, r2, r3) := by first | (rw [hji13] at H; exact H) | (simp only [hji13] at H ⊢; exact H)
           have hji13_ : (IntKind.i64.wrap ((Int.tmod (wrap64 (rd l0 (ji8))) 128) * 2 ^ min (ji11).toNat 64)) = ji13 := hji13
           have hji13z : (ji11) ≤ 64 → (IntKind.i64.wrap ((Int.tmod (wrap64 (rd l0 (ji8))) 128) * 2 ^ (ji11).toNat)) = ji13 := shl_small hji13
           have hji13y : (wrap64 ((Int.tmod (wrap64 (rd l0 (ji8))) 128) * 2 ^ min (ji11).toNat 64)) = ji13 := (i64_w _).symm.trans hji13_
           have hji13x : (ji11) ≤ 64 → (wrap64 ((Int.tmod (wrap64 (rd l0 (ji8))) 128) * 2 ^ (ji11).toNat)) = ji13 := fun h_ => (i64_w _).symm.trans (hji13z h_)
           by_cases c14 : (wrap64 (rd l0 (ji8))) < 128
           ·rw [if_pos c14] at H
            have c14b0 : decide ((wrap64 (rd l0 (ji8))) < 128) = true := decide_eq_true c14
            clear c14
            by_cases c15 : (wrap64 (rd l0 (ji8))) = 0
            ·rw [if_pos c15] at H
             have c15b0 : ((wrap64 (rd l0 (ji8))) == 0) = true := beq_iff_eq.mpr c15
             have c15b1 : ((wrap64 (rd l0 (ji8))) != 0) = false := bne_eq_false_iff_eq.mpr c15
             clear c15
             by_cases c16 : x8_2 > 0
             ·rw [if_pos c16] at H
              have c16b0 : decide (0 < x8_2) = true := decide_eq_true c16
              clear c16
              simp only [Option.some.injEq, Prod.mk.injEq] at H
              obtain ⟨rfl, rfl, rfl⟩ := H
              have p102 : 0 ≤ ((ji8) : Int) := of_decide_eq_true (by first | (with_reducible assumption) | assumption)
              have q102 : (ji8) < (l0.length : Int) := of_decide_eq_true (by first | (with_reducible assumption) | assumption)
              obtain ⟨ad102, e102, hx102_0⟩ := Kd.at_int HR0.out (ji8) p102 q102
              cases e102
              replace p102 := eq_true p102
              replace q102 := eq_true q102
              go_wp2
              go_ret3
              exact ⟨by first | rfl | (simp; done) | (simp only [← hji8, ← hji11, ← hji13] <;> (first | rfl | simp)) | (simp [*]; done), by repeat (first | exact Drawn0.refl _ | apply Drawn0.step)⟩
             ·rw [if_neg c16] at H
              have c16b0 : decide (0 < x8_2) = false := decide_eq_false c16
              clear c16
              simp only [Option.some.injEq, Prod.mk.injEq] at H
              obtain ⟨rfl, rfl, rfl⟩ := H
              have p102 : 0 ≤ ((ji8) : Int) := of_decide_eq_true (by first | (with_reducible assumption) | assumption)
              have q102 : (ji8) < (l0.length : Int) := of_decide_eq_true (by first | (with_reducible assumption) | assumption)
              obtain ⟨ad102, e102, hx102_0⟩ := Kd.at_int HR0.out (ji8) p102 q102
              cases e102
              replace p102 := eq_true p102
              replace q102 := eq_true q102
              go_wp2
              go_ret3
              exact ⟨by first | rfl | (simp; done) | (simp only [← hji8, ← hji11, ← hji13] <;> (first | rfl | simp)) | (simp [*]; done), by repeat (first | exact Drawn0.refl _ | apply Drawn0.step)⟩
            ·rw [if_neg c15] at H
             have c15b0 : ((wrap64 (rd l0 (ji8))) == 0) = false := beq_eq_false_iff_ne.mpr c15
             have c15b1 : ((wrap64 (rd l0 (ji8))) != 0) = true := bne_iff_ne.mpr c15
             simp only [Option.some.injEq, Prod.mk.injEq] at H
             obtain ⟨rfl, rfl, rfl⟩ := H
             have p102 : 0 ≤ ((ji8) : Int) := of_decide_eq_true (by first | (with_reducible assumption) | assumption)
             have q102 : (ji8) < (l0.length : Int) := of_decide_eq_true (by first | (with_reducible assumption) | assumption)
             obtain ⟨ad102, e102, hx102_0⟩ := Kd.at_int HR0.out (ji8) p102 q102
             cases e102
             replace p102 := eq_true p102
             replace q102 := eq_true q102
             go_wp2
             go_ret3
             exact ⟨by first | rfl | (simp; done) | (simp only [← hji8, ← hji11, ← hji13] <;> (first | rfl | simp)) | (simp [*]; done), by repeat (first | exact Drawn0.refl _ | apply Drawn0.step)⟩
           ·rw [if_neg c14] at H
            have c14b0 : decide ((wrap64 (rd l0 (ji8))) < 128) = false := decide_eq_false c14
            clear c14
            have H' := Aside0.mk H
            clear H
            have p102 : 0 ≤ ((ji8) : Int) := of_decide_eq_true (by first | (with_reducible assumption) | assumption)
            have q102 : (ji8) < (l0.length : Int) := of_decide_eq_true (by first | (with_reducible assumption) | assumption)
            obtain ⟨ad102, e102, hx102_0⟩ := Kd.at_int HR0.out (ji8) p102 q102
            cases e102
            replace p102 := eq_true p102
            replace q102 := eq_true q102
            go_wp2
            go_roundg k2
            case measure => have := HJ2.out; have := HK2.out; omega
            case rel => exact ⟨(wrap64 (x7_2 + (ji13))), (wrap64 (x8_2 + 1)), (by first | rfl | (simp; done) | (simp only [← hji13] <;> (first | rfl | simp)) | (simp [*]; done)), (by first | rfl | (simp; done) | (simp [*]; done)), H', ⟨by have := HJ2.out; have := HK2.out; omega⟩, by repeat (first | exact Drawn0.refl _ | apply Drawn0.step)⟩
          ·rw [if_neg c12] at H
           exact absurd H (by simp)
         ·rw [if_neg c10] at H
          exact absurd H (by simp)
        ·rw [if_neg c9] at H
         exact absurd H (by simp)
      ·rw [if_neg c6] at H
       have c6b0 : decide (x8_2 < 9) = false := decide_eq_false c6
       clear c6
       simp only [Option.some.injEq, Prod.mk.injEq] at H
       obtain ⟨rfl, rfl, rfl⟩ := H
       go_wp2
       go_ret3
       exact ⟨by first | rfl | (simp; done) | (simp [*]; done), by repeat (first | exact Drawn0.refl _ | apply Drawn0.step)⟩

end Go.Proofs.Ytgjmollnjlkjhaa.Q
