-- Written by wip/tools/pr.py of this session over the kit's print (widened); the words are the kit's print's own. Not trusted: Lean checks it.
import Derived.Test.YtgjmollnjlkjhaaQx0
import Derived.Test.YtgjmollnjlkjhaaQx1
import Derived.Test.YtgjmollnjlkjhaaQx2
import Derived.Test.YtgjmollnjlkjhaaQx3
namespace Go.Proofs.Ytgjmollnjlkjhaa.Q
open Go.RowKit Go.Proofs.YtgjmollnjlkjhaaW.PrintWords Go.Proofs.YtgjmollnjlkjhaaW.PrintLast Go.Proofs.YtgjmollnjlkjhaaW.PrintMore
attribute [local go_sem] max2_int min2_int max_two min_two max_three min_three max_four min_four   -- for this text's walks alone
set_option linter.unusedVariables false
set_option linter.unusedSimpArgs false

/-! ### endonymref1_ReadText: function 22 -/
def endonymref1_ReadText.j0 : Nat → List Int → Int → Int → Bool → Option (ByteArray × Int × Int)
 | 0, _, _, _, _ => none
 | k + 1, x0, x1, x2, x23 => if x23 = true then (some ((⟨#[]⟩ : ByteArray), 0, 1)) else ((endonymref1_ReadUint.f k x0 x1).bind fun bt143 => (if bt143.2.2 = 0 then (if bt143.1 > x2 then (some ((⟨#[]⟩ : ByteArray), 0, 3)) else (if bt143.1 > (wrap64 ((x0.length : Int) - bt143.2.1)) then (some ((⟨#[]⟩ : ByteArray), 0, 10)) else (if 0 ≤ bt143.2.1 then (if bt143.2.1 ≤ (wrap64 (bt143.2.1 + bt143.1)) then (if (wrap64 (bt143.2.1 + bt143.1)) ≤ (x0.length : Int) then (some (strOfNums ((x0.take ((wrap64 (bt143.2.1 + bt143.1)) : Int).toNat).drop (bt143.2.1 : Int).toNat), wrap64 (bt143.2.1 + bt143.1), 0)) else (none)) else (none)) else (none)))) else (some ((⟨#[]⟩ : ByteArray), 0, bt143.2.2))))
def endonymref1_ReadText.f (k : Nat) (l0 : List Int) (a1 : Int) (a2 : Int) : Option (ByteArray × Int × Int) := if a1 < 0 then (endonymref1_ReadText.j0 k l0 a1 a2 true) else (if a1 > (l0.length : Int) then (endonymref1_ReadText.j0 k l0 a1 a2 true) else (endonymref1_ReadText.j0 k l0 a1 a2 (decide (a2 < 0))))
theorem endonymref1_ReadText.mono_l : ∀ k, (∀ y0 y1 y2 y3, LeO (endonymref1_ReadText.j0 k y0 y1 y2 y3) (endonymref1_ReadText.j0 (k + 1) y0 y1 y2 y3))
 | 0 => fun _ _ _ _ r h => by simp [endonymref1_ReadText.j0] at h
 | k + 1 => by
  have ih0 := endonymref1_ReadText.mono_l k
  ·intro y0 y1 y2 y3
   unfold endonymref1_ReadText.j0
   repeat' first
   | (with_reducible exact ih0 _ _ _ _)
   | (with_reducible exact endonymref1_ReadUint.mono _ _ _)
   | (with_reducible exact LeO.refl _)
   | (with_reducible exact LeO.none _)
   | (with_reducible refine LeO.ite ?_ ?_)
   | (with_reducible refine LeO.bind ?_ (fun _ => ?_))
   | exact ih0 _ _ _ _
   | exact endonymref1_ReadUint.mono _ _ _
   | exact LeO.none _
   | refine LeO.ite ?_ ?_
   | refine LeO.bind ?_ (fun _ => ?_)
theorem endonymref1_ReadText.mono : ∀ a0 a1 a2 k, LeO (endonymref1_ReadText.f k a0 a1 a2) (endonymref1_ReadText.f (k + 1) a0 a1 a2) := by
 intro a0 a1 a2 k
 have ih0 := endonymref1_ReadText.mono_l k
 unfold endonymref1_ReadText.f
 repeat' first
   | (with_reducible exact ih0 _ _ _ _)
   | (with_reducible exact endonymref1_ReadUint.mono _ _ _)
   | (with_reducible exact LeO.refl _)
   | (with_reducible exact LeO.none _)
   | (with_reducible refine LeO.ite ?_ ?_)
   | (with_reducible refine LeO.bind ?_ (fun _ => ?_))
   | exact ih0 _ _ _ _
   | exact endonymref1_ReadUint.mono _ _ _
   | exact LeO.none _
   | refine LeO.ite ?_ ?_
   | refine LeO.bind ?_ (fun _ => ?_)
set_option maxHeartbeats 8000000 in
set_option maxRecDepth 100000 in
theorem endonymref1_ReadText.calls (k : Nat) (A0 : Option Addr) (c0 : Nat) (l0 : List Int) (a1 : Int) (a2 : Int) (r1 : ByteArray) (r2 : Int) (r3 : Int) (w : World) (hr0 : Kd.C (Kd.int .u8) w A0 l0.length l0) (hc0 : l0.length ≤ c0) (h : endonymref1_ReadText.f k l0 a1 a2 = some (r1, r2, r3)) :
  Calls Try.prog 22 #[.slice A0 l0.length c0, .int .i64 a1, .int .i64 a2] w fun e w' => e = .returned (.tuple #[.string r1, .int .i64 r2, .int .i64 r3]) ∧ Drawn0 w w' := by
 have HR0 := Aside0.mk hr0
 have HC0 := Aside0.mk hc0
 clear hr0 hc0
 have H : (if a1 < 0 then (endonymref1_ReadText.j0 k l0 a1 a2 true) else (if a1 > (l0.length : Int) then (endonymref1_ReadText.j0 k l0 a1 a2 true) else (endonymref1_ReadText.j0 k l0 a1 a2 (decide (a2 < 0))))) = some (r1, r2, r3) := h
 clear h
 have HC4 := Aside0.mk H
 clear H
 go_enter Try.func22, Try.ntmps22
 go_upto_region 1 with (fail)
 go_cut [23] (fun v23 wc => ∃ (kq : Nat) (x23_3 : Bool), v23 = .bool x23_3 ∧ Aside0 (endonymref1_ReadText.j0 kq l0 a1 a2 x23_3 = some (r1, r2, r3)) ∧ Aside0 (kq ≤ k) ∧ Drawn0 w wc)
 case first =>
  have H := HC4.out
  clear HC4
  by_cases c5 : a1 < 0
  ·rw [if_pos c5] at H
   have c5b0 : decide (a1 < 0) = true := decide_eq_true c5
   clear c5
   (first | rw [c5b0] | (simp only [i64_w, i32_w]; rw [c5b0]) | skip)
   have H' := Aside0.mk H
   clear H
   go_wp2
   go_meet
   case rel => exact ⟨_, (true), (by first | rfl | (simp; done) | (simp [*]; done)), H', ⟨by first | omega | exact Nat.le_refl _⟩, by repeat (first | exact Drawn0.refl _ | apply Drawn0.step)⟩
  ·rw [if_neg c5] at H
   have c5b0 : decide (a1 < 0) = false := decide_eq_false c5
   clear c5
   (first | rw [c5b0] | (simp only [i64_w, i32_w]; rw [c5b0]) | skip)
   by_cases c6 : a1 > (l0.length : Int)
   ·rw [if_pos c6] at H
    have c6b0 : decide ((l0.length : Int) < a1) = true := decide_eq_true c6
    clear c6
    have H' := Aside0.mk H
    clear H
    go_wp2
    go_meet
    case rel => exact ⟨_, (true), (by first | rfl | (simp; done) | (simp [*]; done)), H', ⟨by first | omega | exact Nat.le_refl _⟩, by repeat (first | exact Drawn0.refl _ | apply Drawn0.step)⟩
   ·rw [if_neg c6] at H
    have c6b0 : decide ((l0.length : Int) < a1) = false := decide_eq_false c6
    clear c6
    have H' := Aside0.mk H
    clear H
    go_wp2
    go_meet
    case rel => exact ⟨_, (decide (a2 < 0)), (by first | rfl | (simp; done) | (simp [*]; done)), H', ⟨by first | omega | exact Nat.le_refl _⟩, by repeat (first | exact Drawn0.refl _ | apply Drawn0.step)⟩
 case rest =>
  clear HC4
  try clear c2
  try clear p2
  try clear c5
  try clear c5b0
  try clear c6
  try clear c6b0
  obtain ⟨kq, x23_3, rfl, HA, HJ3, ⟨mc3, rfl⟩⟩ := hcut
  cases kq with
  | zero => exact absurd HA.out (by simp [endonymref1_ReadText.j0])
  | succ kj3 =>
   have H := HA.out
   clear HA
   simp only [endonymref1_ReadText.j0] at H
   by_cases c7 : x23_3 = true
   ·subst c7
    have H1 : (some ((⟨#[]⟩ : ByteArray), 0, 1)) = some (r1, r2, r3) := by rw [if_pos rfl] at H; exact H
    clear H
    have H := H1
    clear H1
    simp only [Option.some.injEq, Prod.mk.injEq] at H
    obtain ⟨rfl, rfl, rfl⟩ := H
    go_wp2
    go_ret3
    exact ⟨by first | rfl | (simp; done) | (simp [*]; done), by repeat (first | exact Drawn0.refl _ | apply Drawn0.step)⟩
   ·replace c7 := Bool.eq_false_iff.mpr c7
    subst c7
    have H1 : ((endonymref1_ReadUint.f kj3 l0 a1).bind fun bt143 => (if bt143.2.2 = 0 then (if bt143.1 > a2 then (some ((⟨#[]⟩ : ByteArray), 0, 3)) else (if bt143.1 > (wrap64 ((l0.length : Int) - bt143.2.1)) then (some ((⟨#[]⟩ : ByteArray), 0, 10)) else (if 0 ≤ bt143.2.1 then (if bt143.2.1 ≤ (wrap64 (bt143.2.1 + bt143.1)) then (if (wrap64 (bt143.2.1 + bt143.1)) ≤ (l0.length : Int) then (some (strOfNums ((l0.take ((wrap64 (bt143.2.1 + bt143.1)) : Int).toNat).drop (bt143.2.1 : Int).toNat), wrap64 (bt143.2.1 + bt143.1), 0)) else (none)) else (none)) else (none)))) else (some ((⟨#[]⟩ : ByteArray), 0, bt143.2.2)))) = some (r1, r2, r3) := by rw [if_neg (show ¬ (false = true) by decide)] at H; exact H
    clear H
    have H := H1
    clear H1
    replace H := Option.bind_eq_some_iff.mp H
    obtain ⟨⟨t143, t144, t145⟩, A80, H⟩ := H
    replace H : (if t145 = 0 then (if t143 > a2 then (some ((⟨#[]⟩ : ByteArray), 0, 3)) else (if t143 > (wrap64 ((l0.length : Int) - t144)) then (some ((⟨#[]⟩ : ByteArray), 0, 10)) else (if 0 ≤ t144 then (if t144 ≤ (wrap64 (t144 + t143)) then (if (wrap64 (t144 + t143)) ≤ (l0.length : Int) then (some (strOfNums ((l0.take ((wrap64 (t144 + t143)) : Int).toNat).drop (t144 : Int).toNat), wrap64 (t144 + t143), 0)) else (none)) else (none)) else (none)))) else (some ((⟨#[]⟩ : ByteArray), 0, t145))) = some (r1, r2, r3) := H
    have A8 := Aside0.mk A80
    clear A80
    by_cases c9 : t145 = 0
    ·rw [if_pos c9] at H
     have c9b0 : (t145 == 0) = true := beq_iff_eq.mpr c9
     have c9b1 : (t145 != 0) = false := bne_eq_false_iff_eq.mpr c9
     clear c9
     by_cases c10 : t143 > a2
     ·rw [if_pos c10] at H
      have c10b0 : decide (a2 < t143) = true := decide_eq_true c10
      clear c10
      simp only [Option.some.injEq, Prod.mk.injEq] at H
      obtain ⟨rfl, rfl, rfl⟩ := H
      go_wp2_with (first | ((with_reducible refine gate_callee (f := 13) rfl ?_); refine goesL_ (some 27) rfl rfl Try.func13 (by kernel_rfl) rfl #[.slice A0 l0.length c0, .int .i64 a1] rfl (by (try simp only [List.map_toArray, List.map_cons, List.map_nil]); first | done | rfl | (simp only [List.length_drop, List.length_take]; rfl)) ?_; (with_reducible refine (endonymref1_ReadUint.calls kj3 _ _ l0 a1 t143 t144 t145 _ ?side1 ?side2 A8.out).mono ?_); (case side1 => repeat (first | exact HR0.out | (with_reducible refine Kd.C_alloc ?_ _) | (with_reducible refine Kd.C_drewN ?_ _) | (with_reducible refine Kd.C_drew ?_))); (case side2 => exact HC0.out); rintro e w' ⟨rfl, ⟨nd, rfl⟩⟩; refine ⟨_, rfl, ?_⟩))
      go_ret3
      exact ⟨by first | rfl | (simp; done) | (simp [*]; done), by repeat (first | exact Drawn0.refl _ | apply Drawn0.step)⟩
     ·rw [if_neg c10] at H
      have c10b0 : decide (a2 < t143) = false := decide_eq_false c10
      clear c10
      by_cases c11 : t143 > (wrap64 ((l0.length : Int) - t144))
      ·rw [if_pos c11] at H
       have c11b0 : decide ((wrap64 ((l0.length : Int) - t144)) < t143) = true := decide_eq_true c11
       clear c11
       simp only [Option.some.injEq, Prod.mk.injEq] at H
       obtain ⟨rfl, rfl, rfl⟩ := H
       go_wp2_with (first | ((with_reducible refine gate_callee (f := 13) rfl ?_); refine goesL_ (some 27) rfl rfl Try.func13 (by kernel_rfl) rfl #[.slice A0 l0.length c0, .int .i64 a1] rfl (by (try simp only [List.map_toArray, List.map_cons, List.map_nil]); first | done | rfl | (simp only [List.length_drop, List.length_take]; rfl)) ?_; (with_reducible refine (endonymref1_ReadUint.calls kj3 _ _ l0 a1 t143 t144 t145 _ ?side1 ?side2 A8.out).mono ?_); (case side1 => repeat (first | exact HR0.out | (with_reducible refine Kd.C_alloc ?_ _) | (with_reducible refine Kd.C_drewN ?_ _) | (with_reducible refine Kd.C_drew ?_))); (case side2 => exact HC0.out); rintro e w' ⟨rfl, ⟨nd, rfl⟩⟩; refine ⟨_, rfl, ?_⟩))
       go_ret3
       exact ⟨by first | rfl | (simp; done) | (simp [*]; done), by repeat (first | exact Drawn0.refl _ | apply Drawn0.step)⟩
      ·rw [if_neg c11] at H
       have c11b0 : decide ((wrap64 ((l0.length : Int) - t144)) < t143) = false := decide_eq_false c11
       clear c11
       by_cases c12 : 0 ≤ t144
       ·rw [if_pos c12] at H
        have c12b0 := eq_true c12
        have c12b1 : decide (0 ≤ t144) = true := decide_eq_true c12
        clear c12
        by_cases c13 : t144 ≤ (wrap64 (t144 + t143))
        ·rw [if_pos c13] at H
         have c13b0 := eq_true c13
         have c13b1 : decide (t144 ≤ (wrap64 (t144 + t143))) = true := decide_eq_true c13
         by_cases c14 : (wrap64 (t144 + t143)) ≤ (l0.length : Int)
         ·rw [if_pos c14] at H
          have c14b0 := eq_true c14
          have c14b1 : decide ((wrap64 (t144 + t143)) ≤ (l0.length : Int)) = true := decide_eq_true c14
          simp only [Option.some.injEq, Prod.mk.injEq] at H
          obtain ⟨rfl, rfl, rfl⟩ := H
          go_wp2_with (first | ((with_reducible refine gate_callee (f := 13) rfl ?_); refine goesL_ (some 27) rfl rfl Try.func13 (by kernel_rfl) rfl #[.slice A0 l0.length c0, .int .i64 a1] rfl (by (try simp only [List.map_toArray, List.map_cons, List.map_nil]); first | done | rfl | (simp only [List.length_drop, List.length_take]; rfl)) ?_; (with_reducible refine (endonymref1_ReadUint.calls kj3 _ _ l0 a1 t143 t144 t145 _ ?side1 ?side2 A8.out).mono ?_); (case side1 => repeat (first | exact HR0.out | (with_reducible refine Kd.C_alloc ?_ _) | (with_reducible refine Kd.C_drewN ?_ _) | (with_reducible refine Kd.C_drew ?_))); (case side2 => exact HC0.out); rintro e w' ⟨rfl, ⟨nd, rfl⟩⟩; refine ⟨_, rfl, ?_⟩; obtain ⟨i015, hi015, _, hsz15, _⟩ := info_parts info5; obtain ⟨A15, hcut15, hA15, hC15⟩ := print_mid_of (P := Try.prog) (Value.int .u8) 0 22 5 .i64 .i64 Try.underlying22 hi015 hsz15 A0 c0 l0 t144 (wrap64 (t144 + t143)) (of_decide_eq_true (by first | (with_reducible assumption) | assumption)) (by first | omega | exact of_decide_eq_true (by first | (with_reducible assumption) | assumption)) (of_decide_eq_true (by first | (with_reducible assumption) | assumption)) HC0.out; have HR146 := Aside0.mk (Kd.C_of_reads (h1 := fun _ => rfl) (hA15 _ (Kd.reads_of_C HR0.out))); have HC146 := Aside0.mk hC15; clear hA15 hC15 hi015 hsz15; have hcv16 := C_string_at (P := Try.prog) (A := A15) (c := (c0 - t144.toNat)) Try.underlying22 Try.underlying5 Try.underlying9 HR146.out; have hcv17 := C_string_drew (P := Try.prog) (A := A15) (c := (c0 - t144.toNat)) Try.underlying22 Try.underlying5 Try.underlying9 HR146.out))
          go_ret3
          exact ⟨by first | rfl | (simp; done) | (simp [*]; done), by repeat (first | exact Drawn0.refl _ | apply Drawn0.step)⟩
         ·rw [if_neg c14] at H
          exact absurd H (by simp)
        ·rw [if_neg c13] at H
         exact absurd H (by simp)
       ·rw [if_neg c12] at H
        exact absurd H (by simp)
    ·rw [if_neg c9] at H
     have c9b0 : (t145 == 0) = false := beq_eq_false_iff_ne.mpr c9
     have c9b1 : (t145 != 0) = true := bne_iff_ne.mpr c9
     simp only [Option.some.injEq, Prod.mk.injEq] at H
     obtain ⟨rfl, rfl, rfl⟩ := H
     go_wp2_with (first | ((with_reducible refine gate_callee (f := 13) rfl ?_); refine goesL_ (some 27) rfl rfl Try.func13 (by kernel_rfl) rfl #[.slice A0 l0.length c0, .int .i64 a1] rfl (by (try simp only [List.map_toArray, List.map_cons, List.map_nil]); first | done | rfl | (simp only [List.length_drop, List.length_take]; rfl)) ?_; (with_reducible refine (endonymref1_ReadUint.calls kj3 _ _ l0 a1 t143 t144 t145 _ ?side1 ?side2 A8.out).mono ?_); (case side1 => repeat (first | exact HR0.out | (with_reducible refine Kd.C_alloc ?_ _) | (with_reducible refine Kd.C_drewN ?_ _) | (with_reducible refine Kd.C_drew ?_))); (case side2 => exact HC0.out); rintro e w' ⟨rfl, ⟨nd, rfl⟩⟩; refine ⟨_, rfl, ?_⟩))
     go_ret3
     exact ⟨by first | rfl | (simp; done) | (simp [*]; done), by repeat (first | exact Drawn0.refl _ | apply Drawn0.step)⟩

/-! ### wire_Text: function 23 -/
def wire_Text.f (k : Nat) (a0 : ByteArray) : Option (List Int) := (wire_Uint.f k (a0.size : Int)).bind fun t147 => (if t147.length + a0.size < 140737488355328 then (some (t147 ++ bytesOf a0)) else (none))
theorem wire_Text.mono : ∀ a0 k, LeO (wire_Text.f k a0) (wire_Text.f (k + 1) a0) := by
 intro a0 k
 unfold wire_Text.f
 repeat' first
   | (with_reducible exact wire_Uint.mono _ _)
   | (with_reducible exact LeO.refl _)
   | (with_reducible exact LeO.none _)
   | (with_reducible refine LeO.ite ?_ ?_)
   | (with_reducible refine LeO.bind ?_ (fun _ => ?_))
   | exact wire_Uint.mono _ _
   | exact LeO.none _
   | refine LeO.ite ?_ ?_
   | refine LeO.bind ?_ (fun _ => ?_)
set_option maxHeartbeats 8000000 in
set_option maxRecDepth 100000 in
theorem wire_Text.calls (k : Nat) (a0 : ByteArray) (r : List Int) (w : World) (h : wire_Text.f k a0 = some r) :
  Calls Try.prog 23 #[.string a0] w fun e w' => ∃ v0_ : Value, e = .returned (v0_) ∧ Kd.R (Kd.int .u8) 5 w' w.heap.size (fun _ => True) v0_ r ∧ Below w.heap.size w w' := by
 have HB := Aside0.mk (Below.refl w.heap.size w)
 have H : ((wire_Uint.f k (a0.size : Int)).bind fun t147 => (if t147.length + a0.size < 140737488355328 then (some (t147 ++ bytesOf a0)) else (none))) = some r := h
 clear h
 replace H := Option.bind_eq_some_iff.mp H
 obtain ⟨t147, A20, H⟩ := H
 replace H : (if t147.length + a0.size < 140737488355328 then (some (t147 ++ bytesOf a0)) else (none)) = some r := H
 have A2 := Aside0.mk A20
 clear A20
 by_cases c3 : t147.length + a0.size < 140737488355328
 ·rw [if_pos c3] at H
  have LMc3 := Aside0.mk c3
  clear c3
  obtain ⟨y150, hy150⟩ : ∃ y_ : List Int, y_ = (t147 ++ bytesOf a0) := ⟨_, rfl⟩
  replace H : (some y150) = some r := by first | (rw [hy150]; with_reducible exact H) | (have H2_ := (Option.bind_some _ _).symm.trans H; rw [hy150]; with_reducible exact H2_) | (have H2_ := (Option.bind_some _ _).symm.trans H; with_reducible exact H2_) | with_reducible exact H | (rw [hy150]; exact H) | exact H
  have Ny150 := Aside0.mk hy150
  clear hy150
  obtain rfl := Option.some.inj H
  go_enter Try.func23, Try.ntmps23
  go_wp2_with (first | ((with_reducible refine gate_callee (f := 16) rfl ?_); refine goesL_ (some 5) rfl rfl Try.func16 (by kernel_rfl) rfl #[.int .i64 (a0.size : Int)] rfl (by (try simp only [List.map_toArray, List.map_cons, List.map_nil]); first | done | rfl | (simp only [List.length_drop, List.length_take]; rfl)) ?_; (with_reducible refine (wire_Uint.calls k (a0.size : Int) t147 _ A2.out).mono ?_); rintro e w4 ⟨v148, rfl, ho0, hb⟩; refine ⟨_, rfl, ?_⟩; have n0_ := Aside0.mk (Kd.R_lower ho0 (below_size (by repeat (first | (with_reducible first | exact HB.out | apply below_alloc | apply pw_below_drewN | apply below_drew1) | exact HB.out)))); have n1_ := Aside0.mk (below_step (by repeat (first | (with_reducible first | exact HB.out | apply below_alloc | apply pw_below_drewN | apply below_drew1) | exact HB.out)) hb); clear HB; have HO149 := n0_; have HB := n1_; clear n0_ n1_; (try clear hb); (try clear hb2); (try clear hk); (try clear hi); (try clear ho0)) | (at_builtin; refine print_append_str (w0 := w) w.heap.size rfl (.tmp 5) _ 22 9 5 rfl Try.underlying22 Try.underlying9 info5 v148 t147 a0 rfl rfl ?aO ?aB ?aS ?aL ?_; (case aB => exact (by repeat (first | (with_reducible first | exact HB.out | apply below_alloc | apply pw_below_drewN | apply below_drew1) | exact HB.out))); (case aO => exact (Kd.own_of_R (by (with_reducible repeat (first | apply Kd.R_alloc | apply Kd.R_drewN | apply Kd.R_drew)); exact HO149.out))); (case aS => exact (below_size (by repeat (first | (with_reducible first | exact HB.out | apply below_alloc | apply pw_below_drewN | apply below_drew1) | exact HB.out)))); (case aL => have := LMc3.out; omega); intro v151 w5 ho0 hb hg; have ho := Kd.R_of_own (h1 := fun _ => rfl) (ok := fun _ => True) ho0 (fun _ _ => trivial); clear ho0; have hat := True.intro; rw [← Ny150.out] at ho; change Kd.R (Kd.int .u8) 5 w5 w.heap.size (fun _ => True) v151 y150 at ho; have n0_ := Aside0.mk (hb); have n1_ := Aside0.mk (ho); clear HB; clear HO149; have HB := n0_; have HO152 := n1_; clear n0_ n1_; clear ho hb hg hat))
  go_ret
  exact ⟨_, by first | rfl | (simp [errW_none, errW_some] <;> rfl) | (simp [*, errW_none, errW_some] <;> rfl), by (with_reducible repeat (first | apply Kd.R_alloc | apply Kd.R_drewN | apply Kd.R_drew)); exact HO152.out, by repeat (first | (with_reducible first | exact HB.out | apply below_alloc | apply pw_below_drewN | apply below_drew1) | exact HB.out)⟩
 ·rw [if_neg c3] at H
  exact absurd H (by simp)

/-! ### endonymref1_Text: function 24 (by hand) -/
def endonymref1_Text.f (k : Nat) (a0 : ByteArray) : Option (List Int) := (endonymref1_Uint.f k (a0.size : Int)).bind fun t => if t.length + a0.size < 140737488355328 then some (t ++ bytesOf a0) else none
theorem endonymref1_Text.mono : ∀ a0 k, LeO (endonymref1_Text.f k a0) (endonymref1_Text.f (k + 1) a0) := by
  intro a0 k
  unfold endonymref1_Text.f
  exact LeO.bind (endonymref1_Uint.mono _ _) (fun _ => LeO.refl _)
set_option maxHeartbeats 4000000 in
set_option maxRecDepth 100000 in
theorem endonymref1_Text.calls (k : Nat) (a0 : ByteArray) (r : List Int) (w : World) (h : endonymref1_Text.f k a0 = some r) :
    Calls Try.prog 24 #[.string a0] w fun e w' => ∃ v0_ : Value, e = .returned (v0_) ∧ Kd.R (Kd.int .u8) 5 w' w.heap.size (fun _ => True) v0_ r ∧ Below w.heap.size w w' := by
  unfold endonymref1_Text.f at h
  obtain ⟨t, ht, h⟩ := Option.bind_eq_some_iff.1 h
  have HT := Aside0.mk ht
  by_cases hl : t.length + a0.size < 140737488355328
  · rw [if_pos hl] at h
    obtain rfl := Option.some.inj h
    have HL := Aside0.mk hl
    clear h hl ht
    have kb := fun W => print_bytes (P := Try.prog) 9 22 5 Try.underlying9 Try.underlying22 Try.underlying5 a0 W
    go_enter Try.func24, Try.ntmps24
    go_wp2_with (first
      | (go_at_call 17; refine (endonymref1_Uint.calls k _ _ _ HT.out).mono ?_; rintro e w1 ⟨v1, rfl, ho, hb⟩; have HO := Aside0.mk ho; have HB := Aside0.mk hb; clear ho hb)
      | (at_builtin; refine Kd.R_append_rows (Kd.int .u8) (w0 := w) w.heap.size rfl (.tmp 5) (.tmp 7) 22 5 (.int .u8 0) 1 rfl Try.underlying22 info5 rfl (by decide) (by omega) v1 t (bytesOf a0) _ _ _ (fun _ => True) (fun _ => False) rfl rfl ?aO ?aR (fun _ _ h => h) (fun _ h => h.elim) ?aF ?aB ?aS ?aL ?_; (case aR => exact Kd.C_of_reads (d := (0 : Int)) (bytes_reads w1 5 a0 (by have := HL.out; omega))); (case aB => exact bytes_below HB.out (below_size HB.out) 5 a0); (case aF => exact (fun _ _ => trivial)); (case aO => exact Kd.R_below HO.out (bytes_below (Below.refl _ _) (Nat.le_refl _) 5 a0)); (case aS => exact below_size (bytes_below HB.out (below_size HB.out) 5 a0)); (case aL => have := HL.out; rw [Nat.mul_one]; omega); intro v2 w2 ho hb hg hat; have HO2 := Aside0.mk ho; have HB2 := Aside0.mk hb; clear ho hb hg hat))
    go_ret
    exact ⟨_, rfl, HO2.out, HB2.out⟩
  · rw [if_neg hl] at h
    exact absurd h (by simp)

/-! ### endonymlaw1_WireTexts: function 5 (by hand) -/
theorem endonymlaw1_WireTexts.go (k : Nat) (a0 : ByteArray) (A1 : Option Addr) (c1 : Nat) (l1 : List Int) (a2 a3 : Int) (x : ByteArray) (p e0 : Int) (u : List Int) (w : World) (hr1 : Kd.C (Kd.int .u8) w A1 l1.length l1) (hc1 : l1.length ≤ c1) (hl : l1.length < 140737488355326)
    (h1 : wire_ReadText.f k l1 a2 a3 = some (x, p, e0)) (h2 : endonymref1_ReadText.f k l1 a2 a3 = some (x, p, e0)) (h3 : wire_Text.f k a0 = some u) (h4 : endonymref1_Text.f k a0 = some u) :
    Calls Try.prog 5 #[.string a0, .slice A1 l1.length c1, .int .i64 a2, .int .i64 a3] w fun e w' => e = .returned (.bool true) ∧ Below w.heap.size w w' := by
  have HR1 := Aside0.mk hr1
  have HL := Aside0.mk hl
  have H1 := Aside0.mk h1
  have H2 := Aside0.mk h2
  have H3 := Aside0.mk h3
  have H4 := Aside0.mk h4
  have H5 : Aside0 (endonymref1_Same.f u u = some true) := ⟨by unfold endonymref1_Same.f; simp⟩
  clear hr1 hl h1 h2 h3 h4
  go_enter Try.func5, Try.ntmps5
  go_wp2_with (first
    | (go_at_call 11; refine (endonymlaw1_roomy.marks A1 c1 l1 w HR1.out hc1 HL.out).mono ?_; rintro e w1 ⟨g, cap, rfl, hcap, hR, hb⟩; have HCAP := Aside0.mk hcap; have HM := Aside0.mk (Kd.R_reads' hR).2.2; have HI := Aside0.mk (Kd.R_reads' (Kd.R_take (m := l1.length) hR (by simp))).2.2; have HB := Aside0.mk hb; clear hcap hR hb)
    | (go_at_call 21; refine (wire_ReadText.calls k _ _ l1 a2 a3 x p e0 _ ?r1 ?r2 H1.out).mono ?_; (case r1 => have := HI.out; rw [List.take_left] at this; exact this); (case r2 => have := HCAP.out; omega); rintro e w' ⟨rfl, ⟨⟨m1, rfl⟩⟩⟩)
    | (go_at_call 22; refine (endonymref1_ReadText.calls k _ _ l1 a2 a3 x p e0 _ ?s1 hc1 H2.out).mono ?_; (case s1 => exact Kd.C_drewN (Kd.C_below HR1.out HB.out) _); rintro e w' ⟨rfl, ⟨⟨m2, rfl⟩⟩⟩)
    | (go_at_call 14; refine (endonymlaw1_told.calls true _ rfl).mono ?_; rintro e w2 ⟨rfl, hb⟩; have HB2 := Aside0.mk hb; clear hb)
    | (go_at_call 23; refine (wire_Text.calls k a0 u _ H3.out).mono ?_; rintro e w3 ⟨v3, rfl, ho, hb⟩; have HO3 := Aside0.mk ho; have HB3 := Aside0.mk hb; clear ho hb)
    | (go_at_call 24; refine (endonymref1_Text.calls k a0 u _ H4.out).mono ?_; rintro e w4 ⟨v4, rfl, ho, hb⟩; have HO4 := Aside0.mk ho; have HB4 := Aside0.mk hb; clear ho hb; obtain ⟨A3, d3, e3⟩ := Kd.R_slice HO3.out; subst e3; obtain ⟨A4, d4, e4⟩ := Kd.R_slice HO4.out; subst e4)
    | (go_at_call 15; refine (endonymref1_Same.calls _ _ u _ _ u true _ ?t1 ?t2 ?t3 ?t4 H5.out).mono ?_; (case t1 => exact Kd.C_below (Kd.R_reads' HO3.out).2.2 HB4.out); (case t2 => exact (Kd.R_reads' HO3.out).2.1); (case t3 => exact (Kd.R_reads' HO4.out).2.2); (case t4 => exact (Kd.R_reads' HO4.out).2.1); rintro e w' ⟨rfl, ⟨⟨m3, rfl⟩⟩⟩)
    | (go_at_call 18; refine (endonymlaw1_whole.marks g cap l1 A1 c1 _ ?q1 HCAP.out ?q2 hc1 (by have := HL.out; omega)).mono ?_; (case q1 => exact Kd.C_drewN (Kd.C_below (Kd.C_below (Kd.C_below (Kd.C_drewN HM.out _) HB2.out) HB3.out) HB4.out) _); (case q2 => exact Kd.C_drewN (Kd.C_below (Kd.C_below (Kd.C_below (Kd.C_drewN (Kd.C_below HR1.out HB.out) _) HB2.out) HB3.out) HB4.out) _); rintro e w' ⟨rfl, ⟨⟨m4, rfl⟩⟩⟩))
  go_ret
  exact ⟨rfl, pw_below_drewN (below_step (below_step (below_step (pw_below_drewN HB.out _) HB2.out) HB3.out) HB4.out) _⟩
def endonymlaw1_WireTexts.Pure : Prop := ∀ (a0 : ByteArray) (l1 : List Int) (a2 a3 : Int), a0.size ≤ 140737488351232 → l1.length ≤ maxLen → l1.length * 1 ≤ 140737488351232 → (∀ x ∈ l1, (Lit.int .u8 x).wf = true) → (Lit.int .i64 a2).wf = true → (Lit.int .i64 a3).wf = true →
  ∃ (k : Nat) (x : ByteArray) (p e0 : Int) (u : List Int), wire_ReadText.f k l1 a2 a3 = some (x, p, e0) ∧ endonymref1_ReadText.f k l1 a2 a3 = some (x, p, e0) ∧ wire_Text.f k a0 = some u ∧ endonymref1_Text.f k a0 = some u
theorem endonymlaw1_WireTexts.walk (P : endonymlaw1_WireTexts.Pure) (a0 : ByteArray) (a1 : Option Addr) (len1 cap1 : Nat) (z1 : List Int) (a2 : Int) (a3 : Int) (w : World) (w0 : a0.size ≤ 140737488351232) (w1 : (a1 = none ∧ len1 = 0 ∧ cap1 = 0 ∧ z1 = []) ∨ ∃ x, a1 = some x ∧ len1 ≤ cap1 ∧ cap1 ≤ maxLen ∧ z1.length = cap1 ∧ (∀ i, i < z1.length → w.cell? (x.add i) = some (.int .u8 (z1.getD i 0))) ∧ ∀ n ∈ z1, (Lit.int .u8 n).wf = true) (y1 : len1 * 1 ≤ 140737488351232) (w2 : (Lit.int .i64 a2).wf = true) (w3 : (Lit.int .i64 a3).wf = true) :
    Calls Try.prog 5 #[.string a0, .slice a1 len1 cap1, .int .i64 a2, .int .i64 a3] w fun e w' => e = .returned (.bool true) ∧ Below w.heap.size w w' := by
  obtain ⟨l1, rfl, hr1, hm1, hw1, hc1⟩ := ReadsInt.ofRowC w1
  obtain ⟨k, x, p, e0, u, h1, h2, h3, h4⟩ := P a0 l1 a2 a3 w0 hm1 y1 hw1 w2 w3
  exact endonymlaw1_WireTexts.go k a0 a1 cap1 l1 a2 a3 x p e0 u w (Kd.C_of_reads (d := (0 : Int)) (h1 := fun _ => rfl) hr1) hc1 (by omega) h1 h2 h3 h4

end Go.Proofs.Ytgjmollnjlkjhaa.Q
