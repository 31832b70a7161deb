-- Written by wip/tools/pr.py of this session over the kit's print (widened); the words are the kit's print's own. Not trusted: Lean checks it.
import Derived.Test.YtiaodapgankjnaaQx0
import Derived.Test.YtiaodapgankjnaaQx12
namespace Go.Proofs.Ytiaodapgankjnaa.Q
open Go.RowKit Go.Proofs.YtiaodapgankjnaaW.PrintWords Go.Proofs.YtiaodapgankjnaaW.PrintLast Go.Proofs.YtiaodapgankjnaaW.PrintMore
attribute [local go_sem] max2_int min2_int max_two min_two max_three min_three max_four min_four   -- for this text's walks alone
set_option linter.unusedVariables false
set_option linter.unusedSimpArgs false

attribute [local go_sem high] eqA50
/-! ### endonymref4_Blocks: function 18 -/
mutual
def endonymref4_Blocks.l0 : Nat → List (S35) → Int → List Int → List (List Int) → Int → List Int → Int → Int → Option (List Int × (List (List Int)))
 | 0, _, _, _, _, _, _, _, _ => none
 | k + 1, x0, x1, x6, x7, x8, x9, x10, x11 => if x11 < 17408 then (endonymref4_Blocks.l1 k x0 x1 x6 x7 x8 x9 x10 x11) else (some (x6, x7))
def endonymref4_Blocks.j2 : Nat → List (S35) → Int → List Int → List (List Int) → Int → List Int → Int → Int → Option (List Int × (List (List Int)))
 | 0, _, _, _, _, _, _, _, _ => none
 | k + 1, x0, x1, x6, x7, x8, x9, x10, x11 => if x8 = (x0.length : Int) then (endonymref4_Blocks.j3 k x0 x1 x6 x7 x8 x9 x10 x11 (-1) true) else (if 0 ≤ x8 then (if x8 < (x0.length : Int) then (endonymref4_Blocks.j3 k x0 x1 x6 x7 x8 x9 x10 x11 (-1) (decide (((rd_T35 x0 x8).f0) > (wrap64 ((wrap64 (64 * x11)) + 63))))) else (none)) else (none))
def endonymref4_Blocks.j4 : Nat → List (S35) → Int → List Int → List (List Int) → Int → List Int → Int → Int → Int → Option (List Int × (List (List Int)))
 | 0, _, _, _, _, _, _, _, _, _ => none
 | k + 1, x0, x1, x6, x7, x8, x9, x10, x11, x12 => if x12 ≥ 0 then (endonymref4_Blocks.j5 k x0 x1 x6 x7 x8 x9 x10 x11 x12 (x12 == x10)) else (endonymref4_Blocks.j5 k x0 x1 x6 x7 x8 x9 x10 x11 x12 false)
def endonymref4_Blocks.j5 : Nat → List (S35) → Int → List Int → List (List Int) → Int → List Int → Int → Int → Int → Bool → Option (List Int × (List (List Int)))
 | 0, _, _, _, _, _, _, _, _, _, _ => none
 | k + 1, x0, x1, x6, x7, x8, x9, x10, x11, x12, x83 => if x83 = true then (if 0 ≤ (wrap64 (x11 - 1)) then (if (wrap64 (x11 - 1)) < (x6.length : Int) then (if x6.length < 70368744177664 then (endonymref4_Blocks.l0 k x0 x1 (x6 ++ [rd x6 (wrap64 (x11 - 1))]) x7 x8 x9 x10 (wrap64 (x11 + 1))) else (none)) else (none)) else (none)) else (endonymref4_Blocks.l2 k x0 x1 x6 x7 x8 x9 x11 x12 x8)
def endonymref4_Blocks.j7 : Nat → List (S35) → Int → List Int → List (List Int) → Int → List Int → Int → Int → Int → Option (List Int × (List (List Int)))
 | 0, _, _, _, _, _, _, _, _, _ => none
 | k + 1, x0, x1, x6, x7, x8, x9, x11, x12, x13 => if 0 ≤ x8 then (if x8 ≤ x13 then (if x13 ≤ (x0.length : Int) then ((endonymref4_Block.f k ((x0.take (x13 : Int).toNat).drop (x8 : Int).toNat) x1 x11).bind fun t245 => (endonymref4_Blocks.l3 k x0 x1 x6 x7 x8 (arrPut 64 x9 t245) x12 x11 0)) else (none)) else (none)) else (none)
def endonymref4_Blocks.l3 : Nat → List (S35) → Int → List Int → List (List Int) → Int → List Int → Int → Int → Int → Option (List Int × (List (List Int)))
 | 0, _, _, _, _, _, _, _, _, _ => none
 | k + 1, x0, x1, x6, x7, x8, x9, x10, x11, x14 => if x14 < (x7.length : Int) then (if 0 ≤ x14 then (if ((arrEq 64 (rd_L4 x7 x14) x9) = true) then (if x14 = (x7.length : Int) then (if x7.length < 1099511627776 then (if x6.length < 70368744177664 then (endonymref4_Blocks.l0 k x0 x1 (x6 ++ [IntKind.u16.wrap (x14)]) (x7 ++ [x9]) x8 x9 x10 (wrap64 (x11 + 1))) else (none)) else (none)) else (if x6.length < 70368744177664 then (endonymref4_Blocks.l0 k x0 x1 (x6 ++ [IntKind.u16.wrap (x14)]) x7 x8 x9 x10 (wrap64 (x11 + 1))) else (none))) else (endonymref4_Blocks.l3 k x0 x1 x6 x7 x8 x9 x10 x11 (wrap64 (x14 + 1)))) else (none)) else (if x14 = (x7.length : Int) then (if x7.length < 1099511627776 then (if x6.length < 70368744177664 then (endonymref4_Blocks.l0 k x0 x1 (x6 ++ [IntKind.u16.wrap (x14)]) (x7 ++ [x9]) x8 x9 x10 (wrap64 (x11 + 1))) else (none)) else (none)) else (if x6.length < 70368744177664 then (endonymref4_Blocks.l0 k x0 x1 (x6 ++ [IntKind.u16.wrap (x14)]) x7 x8 x9 x10 (wrap64 (x11 + 1))) else (none)))
def endonymref4_Blocks.l2 : Nat → List (S35) → Int → List Int → List (List Int) → Int → List Int → Int → Int → Int → Option (List Int × (List (List Int)))
 | 0, _, _, _, _, _, _, _, _, _ => none
 | k + 1, x0, x1, x6, x7, x8, x9, x11, x12, x13 => if x13 < (x0.length : Int) then (if 0 ≤ x13 then (if ((rd_T35 x0 x13).f0) ≤ (wrap64 ((wrap64 (64 * x11)) + 63)) then (endonymref4_Blocks.l2 k x0 x1 x6 x7 x8 x9 x11 x12 (wrap64 (x13 + 1))) else (endonymref4_Blocks.j7 k x0 x1 x6 x7 x8 x9 x11 x12 x13)) else (none)) else (endonymref4_Blocks.j7 k x0 x1 x6 x7 x8 x9 x11 x12 x13)
def endonymref4_Blocks.j3 : Nat → List (S35) → Int → List Int → List (List Int) → Int → List Int → Int → Int → Int → Bool → Option (List Int × (List (List Int)))
 | 0, _, _, _, _, _, _, _, _, _, _ => none
 | k + 1, x0, x1, x6, x7, x8, x9, x10, x11, x12, x35 => if x35 = true then (endonymref4_Blocks.j4 k x0 x1 x6 x7 x8 x9 x10 x11 x1) else (if 0 ≤ x8 then (if x8 < (x0.length : Int) then (if ((rd_T35 x0 x8).f0) ≤ (wrap64 (64 * x11)) then (if ((rd_T35 x0 x8).f1) ≥ (wrap64 ((wrap64 (64 * x11)) + 63)) then (endonymref4_Blocks.j4 k x0 x1 x6 x7 x8 x9 x10 x11 ((rd_T35 x0 x8).f2)) else (endonymref4_Blocks.j4 k x0 x1 x6 x7 x8 x9 x10 x11 x12)) else (endonymref4_Blocks.j4 k x0 x1 x6 x7 x8 x9 x10 x11 x12)) else (none)) else (none))
def endonymref4_Blocks.l1 : Nat → List (S35) → Int → List Int → List (List Int) → Int → List Int → Int → Int → Option (List Int × (List (List Int)))
 | 0, _, _, _, _, _, _, _, _ => none
 | k + 1, x0, x1, x6, x7, x8, x9, x10, x11 => if x8 < (x0.length : Int) then (if 0 ≤ x8 then (if ((rd_T35 x0 x8).f1) < (wrap64 (64 * x11)) then (endonymref4_Blocks.l1 k x0 x1 x6 x7 (wrap64 (x8 + 1)) x9 x10 x11) else (endonymref4_Blocks.j2 k x0 x1 x6 x7 x8 x9 x10 x11)) else (none)) else (endonymref4_Blocks.j2 k x0 x1 x6 x7 x8 x9 x10 x11)
end
def endonymref4_Blocks.f (k : Nat) (l0 : List (S35)) (a1 : Int) : Option (List Int × (List (List Int))) := endonymref4_Blocks.l0 k l0 a1 ([] : List Int) ([] : List (List Int)) 0 (List.replicate 64 0) (-1) 0
theorem endonymref4_Blocks.mono_l : ∀ k, (∀ y0 y1 y2 y3 y4 y5 y6 y7, LeO (endonymref4_Blocks.l0 k y0 y1 y2 y3 y4 y5 y6 y7) (endonymref4_Blocks.l0 (k + 1) y0 y1 y2 y3 y4 y5 y6 y7)) ∧ (∀ y0 y1 y2 y3 y4 y5 y6 y7, LeO (endonymref4_Blocks.j2 k y0 y1 y2 y3 y4 y5 y6 y7) (endonymref4_Blocks.j2 (k + 1) y0 y1 y2 y3 y4 y5 y6 y7)) ∧ (∀ y0 y1 y2 y3 y4 y5 y6 y7 y8, LeO (endonymref4_Blocks.j4 k y0 y1 y2 y3 y4 y5 y6 y7 y8) (endonymref4_Blocks.j4 (k + 1) y0 y1 y2 y3 y4 y5 y6 y7 y8)) ∧ (∀ y0 y1 y2 y3 y4 y5 y6 y7 y8 y9, LeO (endonymref4_Blocks.j5 k y0 y1 y2 y3 y4 y5 y6 y7 y8 y9) (endonymref4_Blocks.j5 (k + 1) y0 y1 y2 y3 y4 y5 y6 y7 y8 y9)) ∧ (∀ y0 y1 y2 y3 y4 y5 y6 y7 y8, LeO (endonymref4_Blocks.j7 k y0 y1 y2 y3 y4 y5 y6 y7 y8) (endonymref4_Blocks.j7 (k + 1) y0 y1 y2 y3 y4 y5 y6 y7 y8)) ∧ (∀ y0 y1 y2 y3 y4 y5 y6 y7 y8, LeO (endonymref4_Blocks.l3 k y0 y1 y2 y3 y4 y5 y6 y7 y8) (endonymref4_Blocks.l3 (k + 1) y0 y1 y2 y3 y4 y5 y6 y7 y8)) ∧ (∀ y0 y1 y2 y3 y4 y5 y6 y7 y8, LeO (endonymref4_Blocks.l2 k y0 y1 y2 y3 y4 y5 y6 y7 y8) (endonymref4_Blocks.l2 (k + 1) y0 y1 y2 y3 y4 y5 y6 y7 y8)) ∧ (∀ y0 y1 y2 y3 y4 y5 y6 y7 y8 y9, LeO (endonymref4_Blocks.j3 k y0 y1 y2 y3 y4 y5 y6 y7 y8 y9) (endonymref4_Blocks.j3 (k + 1) y0 y1 y2 y3 y4 y5 y6 y7 y8 y9)) ∧ (∀ y0 y1 y2 y3 y4 y5 y6 y7, LeO (endonymref4_Blocks.l1 k y0 y1 y2 y3 y4 y5 y6 y7) (endonymref4_Blocks.l1 (k + 1) y0 y1 y2 y3 y4 y5 y6 y7))
 | 0 => ⟨fun _ _ _ _ _ _ _ _ r h => by simp [endonymref4_Blocks.l0] at h, fun _ _ _ _ _ _ _ _ r h => by simp [endonymref4_Blocks.j2] at h, fun _ _ _ _ _ _ _ _ _ r h => by simp [endonymref4_Blocks.j4] at h, fun _ _ _ _ _ _ _ _ _ _ r h => by simp [endonymref4_Blocks.j5] at h, fun _ _ _ _ _ _ _ _ _ r h => by simp [endonymref4_Blocks.j7] at h, fun _ _ _ _ _ _ _ _ _ r h => by simp [endonymref4_Blocks.l3] at h, fun _ _ _ _ _ _ _ _ _ r h => by simp [endonymref4_Blocks.l2] at h, fun _ _ _ _ _ _ _ _ _ _ r h => by simp [endonymref4_Blocks.j3] at h, fun _ _ _ _ _ _ _ _ r h => by simp [endonymref4_Blocks.l1] at h⟩
 | k + 1 => by
  obtain ⟨ih0, ih1, ih2, ih3, ih4, ih5, ih6, ih7, ih8⟩ := endonymref4_Blocks.mono_l k
  refine ⟨?_, ?_, ?_, ?_, ?_, ?_, ?_, ?_, ?_⟩
  ·intro y0 y1 y2 y3 y4 y5 y6 y7
   unfold endonymref4_Blocks.l0
   repeat' first
   | (with_reducible exact ih0 _ _ _ _ _ _ _ _)
   | (with_reducible exact ih1 _ _ _ _ _ _ _ _)
   | (with_reducible exact ih2 _ _ _ _ _ _ _ _ _)
   | (with_reducible exact ih3 _ _ _ _ _ _ _ _ _ _)
   | (with_reducible exact ih4 _ _ _ _ _ _ _ _ _)
   | (with_reducible exact ih5 _ _ _ _ _ _ _ _ _)
   | (with_reducible exact ih6 _ _ _ _ _ _ _ _ _)
   | (with_reducible exact ih7 _ _ _ _ _ _ _ _ _ _)
   | (with_reducible exact ih8 _ _ _ _ _ _ _ _)
   | (with_reducible exact endonymref4_Block.mono _ _ _ _)
   | (with_reducible exact LeO.refl _)
   | (with_reducible exact LeO.none _)
   | (with_reducible refine LeO.ite ?_ ?_)
   | (with_reducible refine LeO.bind ?_ (fun _ => ?_))
   | exact ih0 _ _ _ _ _ _ _ _
   | exact ih1 _ _ _ _ _ _ _ _
   | exact ih2 _ _ _ _ _ _ _ _ _
   | exact ih3 _ _ _ _ _ _ _ _ _ _
   | exact ih4 _ _ _ _ _ _ _ _ _
   | exact ih5 _ _ _ _ _ _ _ _ _
   | exact ih6 _ _ _ _ _ _ _ _ _
   | exact ih7 _ _ _ _ _ _ _ _ _ _
   | exact ih8 _ _ _ _ _ _ _ _
   | exact endonymref4_Block.mono _ _ _ _
   | exact LeO.none _
   | refine LeO.ite ?_ ?_
   | refine LeO.bind ?_ (fun _ => ?_)
  ·intro y0 y1 y2 y3 y4 y5 y6 y7
   unfold endonymref4_Blocks.j2
   repeat' first
   | (with_reducible exact ih0 _ _ _ _ _ _ _ _)
   | (with_reducible exact ih1 _ _ _ _ _ _ _ _)
   | (with_reducible exact ih2 _ _ _ _ _ _ _ _ _)
   | (with_reducible exact ih3 _ _ _ _ _ _ _ _ _ _)
   | (with_reducible exact ih4 _ _ _ _ _ _ _ _ _)
   | (with_reducible exact ih5 _ _ _ _ _ _ _ _ _)
   | (with_reducible exact ih6 _ _ _ _ _ _ _ _ _)
   | (with_reducible exact ih7 _ _ _ _ _ _ _ _ _ _)
   | (with_reducible exact ih8 _ _ _ _ _ _ _ _)
   | (with_reducible exact endonymref4_Block.mono _ _ _ _)
   | (with_reducible exact LeO.refl _)
   | (with_reducible exact LeO.none _)
   | (with_reducible refine LeO.ite ?_ ?_)
   | (with_reducible refine LeO.bind ?_ (fun _ => ?_))
   | exact ih0 _ _ _ _ _ _ _ _
   | exact ih1 _ _ _ _ _ _ _ _
   | exact ih2 _ _ _ _ _ _ _ _ _
   | exact ih3 _ _ _ _ _ _ _ _ _ _
   | exact ih4 _ _ _ _ _ _ _ _ _
   | exact ih5 _ _ _ _ _ _ _ _ _
   | exact ih6 _ _ _ _ _ _ _ _ _
   | exact ih7 _ _ _ _ _ _ _ _ _ _
   | exact ih8 _ _ _ _ _ _ _ _
   | exact endonymref4_Block.mono _ _ _ _
   | exact LeO.none _
   | refine LeO.ite ?_ ?_
   | refine LeO.bind ?_ (fun _ => ?_)
  ·intro y0 y1 y2 y3 y4 y5 y6 y7 y8
   unfold endonymref4_Blocks.j4
   repeat' first
   | (with_reducible exact ih0 _ _ _ _ _ _ _ _)
   | (with_reducible exact ih1 _ _ _ _ _ _ _ _)
   | (with_reducible exact ih2 _ _ _ _ _ _ _ _ _)
   | (with_reducible exact ih3 _ _ _ _ _ _ _ _ _ _)
   | (with_reducible exact ih4 _ _ _ _ _ _ _ _ _)
   | (with_reducible exact ih5 _ _ _ _ _ _ _ _ _)
   | (with_reducible exact ih6 _ _ _ _ _ _ _ _ _)
   | (with_reducible exact ih7 _ _ _ _ _ _ _ _ _ _)
   | (with_reducible exact ih8 _ _ _ _ _ _ _ _)
   | (with_reducible exact endonymref4_Block.mono _ _ _ _)
   | (with_reducible exact LeO.refl _)
   | (with_reducible exact LeO.none _)
   | (with_reducible refine LeO.ite ?_ ?_)
   | (with_reducible refine LeO.bind ?_ (fun _ => ?_))
   | exact ih0 _ _ _ _ _ _ _ _
   | exact ih1 _ _ _ _ _ _ _ _
   | exact ih2 _ _ _ _ _ _ _ _ _
   | exact ih3 _ _ _ _ _ _ _ _ _ _
   | exact ih4 _ _ _ _ _ _ _ _ _
   | exact ih5 _ _ _ _ _ _ _ _ _
   | exact ih6 _ _ _ _ _ _ _ _ _
   | exact ih7 _ _ _ _ _ _ _ _ _ _
   | exact ih8 _ _ _ _ _ _ _ _
   | exact endonymref4_Block.mono _ _ _ _
   | exact LeO.none _
   | refine LeO.ite ?_ ?_
   | refine LeO.bind ?_ (fun _ => ?_)
  ·intro y0 y1 y2 y3 y4 y5 y6 y7 y8 y9
   unfold endonymref4_Blocks.j5
   repeat' first
   | (with_reducible exact ih0 _ _ _ _ _ _ _ _)
   | (with_reducible exact ih1 _ _ _ _ _ _ _ _)
   | (with_reducible exact ih2 _ _ _ _ _ _ _ _ _)
   | (with_reducible exact ih3 _ _ _ _ _ _ _ _ _ _)
   | (with_reducible exact ih4 _ _ _ _ _ _ _ _ _)
   | (with_reducible exact ih5 _ _ _ _ _ _ _ _ _)
   | (with_reducible exact ih6 _ _ _ _ _ _ _ _ _)
   | (with_reducible exact ih7 _ _ _ _ _ _ _ _ _ _)
   | (with_reducible exact ih8 _ _ _ _ _ _ _ _)
   | (with_reducible exact endonymref4_Block.mono _ _ _ _)
   | (with_reducible exact LeO.refl _)
   | (with_reducible exact LeO.none _)
   | (with_reducible refine LeO.ite ?_ ?_)
   | (with_reducible refine LeO.bind ?_ (fun _ => ?_))
   | exact ih0 _ _ _ _ _ _ _ _
   | exact ih1 _ _ _ _ _ _ _ _
   | exact ih2 _ _ _ _ _ _ _ _ _
   | exact ih3 _ _ _ _ _ _ _ _ _ _
   | exact ih4 _ _ _ _ _ _ _ _ _
   | exact ih5 _ _ _ _ _ _ _ _ _
   | exact ih6 _ _ _ _ _ _ _ _ _
   | exact ih7 _ _ _ _ _ _ _ _ _ _
   | exact ih8 _ _ _ _ _ _ _ _
   | exact endonymref4_Block.mono _ _ _ _
   | exact LeO.none _
   | refine LeO.ite ?_ ?_
   | refine LeO.bind ?_ (fun _ => ?_)
  ·intro y0 y1 y2 y3 y4 y5 y6 y7 y8
   unfold endonymref4_Blocks.j7
   repeat' first
   | (with_reducible exact ih0 _ _ _ _ _ _ _ _)
   | (with_reducible exact ih1 _ _ _ _ _ _ _ _)
   | (with_reducible exact ih2 _ _ _ _ _ _ _ _ _)
   | (with_reducible exact ih3 _ _ _ _ _ _ _ _ _ _)
   | (with_reducible exact ih4 _ _ _ _ _ _ _ _ _)
   | (with_reducible exact ih5 _ _ _ _ _ _ _ _ _)
   | (with_reducible exact ih6 _ _ _ _ _ _ _ _ _)
   | (with_reducible exact ih7 _ _ _ _ _ _ _ _ _ _)
   | (with_reducible exact ih8 _ _ _ _ _ _ _ _)
   | (with_reducible exact endonymref4_Block.mono _ _ _ _)
   | (with_reducible exact LeO.refl _)
   | (with_reducible exact LeO.none _)
   | (with_reducible refine LeO.ite ?_ ?_)
   | (with_reducible refine LeO.bind ?_ (fun _ => ?_))
   | exact ih0 _ _ _ _ _ _ _ _
   | exact ih1 _ _ _ _ _ _ _ _
   | exact ih2 _ _ _ _ _ _ _ _ _
   | exact ih3 _ _ _ _ _ _ _ _ _ _
   | exact ih4 _ _ _ _ _ _ _ _ _
   | exact ih5 _ _ _ _ _ _ _ _ _
   | exact ih6 _ _ _ _ _ _ _ _ _
   | exact ih7 _ _ _ _ _ _ _ _ _ _
   | exact ih8 _ _ _ _ _ _ _ _
   | exact endonymref4_Block.mono _ _ _ _
   | exact LeO.none _
   | refine LeO.ite ?_ ?_
   | refine LeO.bind ?_ (fun _ => ?_)
  ·intro y0 y1 y2 y3 y4 y5 y6 y7 y8
   unfold endonymref4_Blocks.l3
   repeat' first
   | (with_reducible exact ih0 _ _ _ _ _ _ _ _)
   | (with_reducible exact ih1 _ _ _ _ _ _ _ _)
   | (with_reducible exact ih2 _ _ _ _ _ _ _ _ _)
   | (with_reducible exact ih3 _ _ _ _ _ _ _ _ _ _)
   | (with_reducible exact ih4 _ _ _ _ _ _ _ _ _)
   | (with_reducible exact ih5 _ _ _ _ _ _ _ _ _)
   | (with_reducible exact ih6 _ _ _ _ _ _ _ _ _)
   | (with_reducible exact ih7 _ _ _ _ _ _ _ _ _ _)
   | (with_reducible exact ih8 _ _ _ _ _ _ _ _)
   | (with_reducible exact endonymref4_Block.mono _ _ _ _)
   | (with_reducible exact LeO.refl _)
   | (with_reducible exact LeO.none _)
   | (with_reducible refine LeO.ite ?_ ?_)
   | (with_reducible refine LeO.bind ?_ (fun _ => ?_))
   | exact ih0 _ _ _ _ _ _ _ _
   | exact ih1 _ _ _ _ _ _ _ _
   | exact ih2 _ _ _ _ _ _ _ _ _
   | exact ih3 _ _ _ _ _ _ _ _ _ _
   | exact ih4 _ _ _ _ _ _ _ _ _
   | exact ih5 _ _ _ _ _ _ _ _ _
   | exact ih6 _ _ _ _ _ _ _ _ _
   | exact ih7 _ _ _ _ _ _ _ _ _ _
   | exact ih8 _ _ _ _ _ _ _ _
   | exact endonymref4_Block.mono _ _ _ _
   | exact LeO.none _
   | refine LeO.ite ?_ ?_
   | refine LeO.bind ?_ (fun _ => ?_)
  ·intro y0 y1 y2 y3 y4 y5 y6 y7 y8
   unfold endonymref4_Blocks.l2
   repeat' first
   | (with_reducible exact ih0 _ _ _ _ _ _ _ _)
   | (with_reducible exact ih1 _ _ _ _ _ _ _ _)
   | (with_reducible exact ih2 _ _ _ _ _ _ _ _ _)
   | (with_reducible exact ih3 _ _ _ _ _ _ _ _ _ _)
   | (with_reducible exact ih4 _ _ _ _ _ _ _ _ _)
   | (with_reducible exact ih5 _ _ _ _ _ _ _ _ _)
   | (with_reducible exact ih6 _ _ _ _ _ _ _ _ _)
   | (with_reducible exact ih7 _ _ _ _ _ _ _ _ _ _)
   | (with_reducible exact ih8 _ _ _ _ _ _ _ _)
   | (with_reducible exact endonymref4_Block.mono _ _ _ _)
   | (with_reducible exact LeO.refl _)
   | (with_reducible exact LeO.none _)
   | (with_reducible refine LeO.ite ?_ ?_)
   | (with_reducible refine LeO.bind ?_ (fun _ => ?_))
   | exact ih0 _ _ _ _ _ _ _ _
   | exact ih1 _ _ _ _ _ _ _ _
   | exact ih2 _ _ _ _ _ _ _ _ _
   | exact ih3 _ _ _ _ _ _ _ _ _ _
   | exact ih4 _ _ _ _ _ _ _ _ _
   | exact ih5 _ _ _ _ _ _ _ _ _
   | exact ih6 _ _ _ _ _ _ _ _ _
   | exact ih7 _ _ _ _ _ _ _ _ _ _
   | exact ih8 _ _ _ _ _ _ _ _
   | exact endonymref4_Block.mono _ _ _ _
   | exact LeO.none _
   | refine LeO.ite ?_ ?_
   | refine LeO.bind ?_ (fun _ => ?_)
  ·intro y0 y1 y2 y3 y4 y5 y6 y7 y8 y9
   unfold endonymref4_Blocks.j3
   repeat' first
   | (with_reducible exact ih0 _ _ _ _ _ _ _ _)
   | (with_reducible exact ih1 _ _ _ _ _ _ _ _)
   | (with_reducible exact ih2 _ _ _ _ _ _ _ _ _)
   | (with_reducible exact ih3 _ _ _ _ _ _ _ _ _ _)
   | (with_reducible exact ih4 _ _ _ _ _ _ _ _ _)
   | (with_reducible exact ih5 _ _ _ _ _ _ _ _ _)
   | (with_reducible exact ih6 _ _ _ _ _ _ _ _ _)
   | (with_reducible exact ih7 _ _ _ _ _ _ _ _ _ _)
   | (with_reducible exact ih8 _ _ _ _ _ _ _ _)
   | (with_reducible exact endonymref4_Block.mono _ _ _ _)
   | (with_reducible exact LeO.refl _)
   | (with_reducible exact LeO.none _)
   | (with_reducible refine LeO.ite ?_ ?_)
   | (with_reducible refine LeO.bind ?_ (fun _ => ?_))
   | exact ih0 _ _ _ _ _ _ _ _
   | exact ih1 _ _ _ _ _ _ _ _
   | exact ih2 _ _ _ _ _ _ _ _ _
   | exact ih3 _ _ _ _ _ _ _ _ _ _
   | exact ih4 _ _ _ _ _ _ _ _ _
   | exact ih5 _ _ _ _ _ _ _ _ _
   | exact ih6 _ _ _ _ _ _ _ _ _
   | exact ih7 _ _ _ _ _ _ _ _ _ _
   | exact ih8 _ _ _ _ _ _ _ _
   | exact endonymref4_Block.mono _ _ _ _
   | exact LeO.none _
   | refine LeO.ite ?_ ?_
   | refine LeO.bind ?_ (fun _ => ?_)
  ·intro y0 y1 y2 y3 y4 y5 y6 y7
   unfold endonymref4_Blocks.l1
   repeat' first
   | (with_reducible exact ih0 _ _ _ _ _ _ _ _)
   | (with_reducible exact ih1 _ _ _ _ _ _ _ _)
   | (with_reducible exact ih2 _ _ _ _ _ _ _ _ _)
   | (with_reducible exact ih3 _ _ _ _ _ _ _ _ _ _)
   | (with_reducible exact ih4 _ _ _ _ _ _ _ _ _)
   | (with_reducible exact ih5 _ _ _ _ _ _ _ _ _)
   | (with_reducible exact ih6 _ _ _ _ _ _ _ _ _)
   | (with_reducible exact ih7 _ _ _ _ _ _ _ _ _ _)
   | (with_reducible exact ih8 _ _ _ _ _ _ _ _)
   | (with_reducible exact endonymref4_Block.mono _ _ _ _)
   | (with_reducible exact LeO.refl _)
   | (with_reducible exact LeO.none _)
   | (with_reducible refine LeO.ite ?_ ?_)
   | (with_reducible refine LeO.bind ?_ (fun _ => ?_))
   | exact ih0 _ _ _ _ _ _ _ _
   | exact ih1 _ _ _ _ _ _ _ _
   | exact ih2 _ _ _ _ _ _ _ _ _
   | exact ih3 _ _ _ _ _ _ _ _ _ _
   | exact ih4 _ _ _ _ _ _ _ _ _
   | exact ih5 _ _ _ _ _ _ _ _ _
   | exact ih6 _ _ _ _ _ _ _ _ _
   | exact ih7 _ _ _ _ _ _ _ _ _ _
   | exact ih8 _ _ _ _ _ _ _ _
   | exact endonymref4_Block.mono _ _ _ _
   | exact LeO.none _
   | refine LeO.ite ?_ ?_
   | refine LeO.bind ?_ (fun _ => ?_)
theorem endonymref4_Blocks.mono : ∀ a0 a1 k, LeO (endonymref4_Blocks.f k a0 a1) (endonymref4_Blocks.f (k + 1) a0 a1) := by
 intro a0 a1 k
 obtain ⟨ih0, ih1, ih2, ih3, ih4, ih5, ih6, ih7, ih8⟩ := endonymref4_Blocks.mono_l k
 unfold endonymref4_Blocks.f
 repeat' first
   | (with_reducible exact ih0 _ _ _ _ _ _ _ _)
   | (with_reducible exact ih1 _ _ _ _ _ _ _ _)
   | (with_reducible exact ih2 _ _ _ _ _ _ _ _ _)
   | (with_reducible exact ih3 _ _ _ _ _ _ _ _ _ _)
   | (with_reducible exact ih4 _ _ _ _ _ _ _ _ _)
   | (with_reducible exact ih5 _ _ _ _ _ _ _ _ _)
   | (with_reducible exact ih6 _ _ _ _ _ _ _ _ _)
   | (with_reducible exact ih7 _ _ _ _ _ _ _ _ _ _)
   | (with_reducible exact ih8 _ _ _ _ _ _ _ _)
   | (with_reducible exact endonymref4_Block.mono _ _ _ _)
   | (with_reducible exact LeO.refl _)
   | (with_reducible exact LeO.none _)
   | (with_reducible refine LeO.ite ?_ ?_)
   | (with_reducible refine LeO.bind ?_ (fun _ => ?_))
   | exact ih0 _ _ _ _ _ _ _ _
   | exact ih1 _ _ _ _ _ _ _ _
   | exact ih2 _ _ _ _ _ _ _ _ _
   | exact ih3 _ _ _ _ _ _ _ _ _ _
   | exact ih4 _ _ _ _ _ _ _ _ _
   | exact ih5 _ _ _ _ _ _ _ _ _
   | exact ih6 _ _ _ _ _ _ _ _ _
   | exact ih7 _ _ _ _ _ _ _ _ _ _
   | exact ih8 _ _ _ _ _ _ _ _
   | exact endonymref4_Block.mono _ _ _ _
   | exact LeO.none _
   | refine LeO.ite ?_ ?_
   | refine LeO.bind ?_ (fun _ => ?_)
set_option maxHeartbeats 400000000 in
set_option maxRecDepth 100000 in
theorem endonymref4_Blocks.calls (k : Nat) (A0 : Option Addr) (c0 : Nat) (l0 : List (S35)) (a1 : Int) (r1 : List Int) (r2 : List (List Int)) (w : World) (hr0 : Kd.C k35 w A0 l0.length l0) (hc0 : l0.length ≤ c0) (h : endonymref4_Blocks.f k l0 a1 = some (r1, r2)) :
  Calls Try.prog 18 #[.slice A0 l0.length c0, .int .i64 a1] w fun e w' => ∃ v0_ v1_ : Value, e = .returned (.tuple #[v0_, v1_]) ∧ Kd.R (Kd.int .u16) 49 w' w.heap.size (fun _ => True) v0_ r1 ∧ Kd.R (Kd.arr 64 (Kd.int .u16) (by decide)) 50 w' w.heap.size (fun _ => True) v1_ r2 ∧ Below w.heap.size w w' := by
 have HR0 := Aside0.mk hr0
 have HC0 := Aside0.mk hc0
 clear hr0 hc0
 have HB := Aside0.mk (Below.refl w.heap.size w)
 have H : (endonymref4_Blocks.l0 k l0 a1 ([] : List Int) ([] : List (List Int)) 0 (List.replicate 64 0) (-1) 0) = some (r1, r2) := h
 clear h
 obtain ⟨y227, hy227⟩ : ∃ y_ : List Int, y_ = (List.replicate 64 0) := ⟨_, rfl⟩
 replace H : (endonymref4_Blocks.l0 k l0 a1 ([] : List Int) ([] : List (List Int)) 0 y227 (-1) 0) = some (r1, r2) := by first | (rw [hy227]; with_reducible exact H) | (have H2_ := (Option.bind_some _ _).symm.trans H; rw [hy227]; with_reducible exact H2_) | (have H2_ := (Option.bind_some _ _).symm.trans H; with_reducible exact H2_) | with_reducible exact H | (rw [hy227]; exact H) | exact H
 have Ny227 := Aside0.mk hy227
 clear hy227
 have H' := Aside0.mk H
 clear H
 go_enter Try.func18, Try.ntmps18
 go_wp2_with (first | ((with_reducible refine gate_dst (N := 9) rfl ?_); refine arrvar_event (k := .u16) (n := 64) (t := 50) rfl (N := 9) rfl rfl (by kernel_rfl) (by decide) (Below.refl _ _) ?_; intro goa230 w3 ho4 hb hg_ gb_; have GBa230 := Aside0.mk (Nat.le_trans (below_size (by repeat (first | (with_reducible first | exact HB.out | apply below_alloc | apply pw_below_drewN | apply below_drew1) | exact HB.out))) gb_); clear hg_ gb_; (first | rw [← Ny227.out] at ho4 | (simp only [Int.reduceToNat] at ho4; rw [← Ny227.out] at ho4)); have n0_ := Aside0.mk (Kd.R_lower ho4 (below_size (by repeat (first | (with_reducible first | exact HB.out | apply below_alloc | apply pw_below_drewN | apply below_drew1) | exact HB.out)))); have n1_ := Aside0.mk (below_step (by repeat (first | (with_reducible first | exact HB.out | apply below_alloc | apply pw_below_drewN | apply below_drew1) | exact HB.out)) hb); clear HB; have HO229 := n0_; have HB := n1_; clear n0_ n1_; clear hb ho4))
 repeat (go_quiet (first | ((with_reducible refine gate_dst (N := 9) rfl ?_); refine arrvar_event (k := .u16) (n := 64) (t := 50) rfl (N := 9) rfl rfl (by kernel_rfl) (by decide) (Below.refl _ _) ?_; intro goa230 w3 ho4 hb hg_ gb_; have GBa230 := Aside0.mk (Nat.le_trans (below_size (by repeat (first | (with_reducible first | exact HB.out | apply below_alloc | apply pw_below_drewN | apply below_drew1) | exact HB.out))) gb_); clear hg_ gb_; (first | rw [← Ny227.out] at ho4 | (simp only [Int.reduceToNat] at ho4; rw [← Ny227.out] at ho4)); have n0_ := Aside0.mk (Kd.R_lower ho4 (below_size (by repeat (first | (with_reducible first | exact HB.out | apply below_alloc | apply pw_below_drewN | apply below_drew1) | exact HB.out)))); have n1_ := Aside0.mk (below_step (by repeat (first | (with_reducible first | exact HB.out | apply below_alloc | apply pw_below_drewN | apply below_drew1) | exact HB.out)) hb); clear HB; have HO229 := n0_; have HB := n1_; clear n0_ n1_; clear hb ho4)); try go_wp2_with (first | ((with_reducible refine gate_dst (N := 9) rfl ?_); refine arrvar_event (k := .u16) (n := 64) (t := 50) rfl (N := 9) rfl rfl (by kernel_rfl) (by decide) (Below.refl _ _) ?_; intro goa230 w3 ho4 hb hg_ gb_; have GBa230 := Aside0.mk (Nat.le_trans (below_size (by repeat (first | (with_reducible first | exact HB.out | apply below_alloc | apply pw_below_drewN | apply below_drew1) | exact HB.out))) gb_); clear hg_ gb_; (first | rw [← Ny227.out] at ho4 | (simp only [Int.reduceToNat] at ho4; rw [← Ny227.out] at ho4)); have n0_ := Aside0.mk (Kd.R_lower ho4 (below_size (by repeat (first | (with_reducible first | exact HB.out | apply below_alloc | apply pw_below_drewN | apply below_drew1) | exact HB.out)))); have n1_ := Aside0.mk (below_step (by repeat (first | (with_reducible first | exact HB.out | apply below_alloc | apply pw_below_drewN | apply below_drew1) | exact HB.out)) hb); clear HB; have HO229 := n0_; have HB := n1_; clear n0_ n1_; clear hb ho4)))
 go_loopg [6, 7, 8, 10, 11] k (fun kq v6 v7 v8 v10 v11 w' => ∃ (x6_1 : List Int) (x7_1 : List (List Int)) (x8_1 : Int) (x9_1 : List Int) (x10_1 : Int) (x11_1 : Int), v8 = .int .i64 x8_1 ∧ v10 = .int .i64 x10_1 ∧ v11 = .int .i64 x11_1 ∧ Aside0 (endonymref4_Blocks.l0 kq l0 a1 x6_1 x7_1 x8_1 x9_1 x10_1 x11_1 = some (r1, r2)) ∧ Aside0 (kq ≤ k) ∧ Aside0 (Kd.R (Kd.int .u16) 49 w' w.heap.size (fun _ => True) v6 x6_1) ∧ Aside0 (Kd.R (Kd.arr 64 (Kd.int .u16) (by decide)) 50 w' w.heap.size (fun k_ => some k_ ≠ ((.slice (some ⟨goa230, 0, none⟩) 64 64) : Value).ownBlock) v7 x7_1) ∧ Aside0 (Kd.R (Kd.int .u16) 50 w' w.heap.size (fun k_ => some k_ ≠ (v7 : Value).ownBlock) (.slice (some ⟨goa230, 0, none⟩) 64 64) x9_1) ∧ Aside0 (Below w.heap.size w w'))
 case atStart => exact ⟨(([] : List Int)), (([] : List (List Int))), (0), (y227), ((-1)), (0), (by first | rfl | (simp; done) | (simp [*]; done)), (by first | rfl | (simp; done) | (simp [*]; done)), (by first | rfl | (simp; done) | (simp [*]; done)), H', ⟨Nat.le_refl _⟩, ⟨by first | exact Kd.R_nil _ _ _ _ _ | exact Kd.N_nil _ _ _ _ _ | exact Kd.V_nil _ _ _ _ _ | exact Kd.Q_nil _ _ _ _ _ | exact Kd.S_nil _ _ _ _ _⟩, ⟨by first | exact Kd.R_nil _ _ _ _ _ | exact Kd.N_nil _ _ _ _ _ | exact Kd.V_nil _ _ _ _ _ | exact Kd.Q_nil _ _ _ _ _ | exact Kd.S_nil _ _ _ _ _⟩, ⟨by (with_reducible repeat (first | apply Kd.R_alloc | apply Kd.R_drewN | apply Kd.R_drew)); exact Kd.R_mono HO229.out (fun _ hk => (by simp [Value.ownBlock]))⟩, ⟨by repeat (first | (with_reducible first | exact HB.out | apply below_alloc | apply pw_below_drewN | apply below_drew1) | exact HB.out)⟩⟩
 case round =>
  clear H'
  (try clear c1); (try clear p2)
  obtain ⟨x6_1, x7_1, x8_1, x9_1, x10_1, x11_1, rfl, rfl, rfl, HA, HK1, HO_6, HO_7, HO_9, HB⟩ := hrel
  cases gk with
  | zero => exact absurd HA.out (by simp [endonymref4_Blocks.l0])
  | succ k1 =>
   have H := HA.out
   clear HA
   simp only [endonymref4_Blocks.l0] at H
   by_cases c5 : x11_1 < 17408
   ·rw [if_pos c5] at H
    have c5b0 : decide (x11_1 < 17408) = true := decide_eq_true c5
    clear c5
    have HC6 := Aside0.mk H
    clear H
    go_upto_block 2 with (fail)
    repeat (go_quiet (fail); go_upto_block 2 with (fail))
    go_cut [8] (fun v8 wc => ∃ (kq : Nat) (x8_5 : Int), v8 = .int .i64 x8_5 ∧ Aside0 (endonymref4_Blocks.j2 kq l0 a1 x6_1 x7_1 x8_5 x9_1 x10_1 x11_1 = some (r1, r2)) ∧ Aside0 (kq ≤ k1) ∧ Aside0 (Kd.R (Kd.int .u16) 49 wc w.heap.size (fun _ => True) u6 x6_1) ∧ Aside0 (Kd.R (Kd.arr 64 (Kd.int .u16) (by decide)) 50 wc w.heap.size (fun k_ => some k_ ≠ ((.slice (some ⟨goa230, 0, none⟩) 64 64) : Value).ownBlock) u7 x7_1) ∧ Aside0 (Kd.R (Kd.int .u16) 50 wc w.heap.size (fun k_ => some k_ ≠ (u7 : Value).ownBlock) (.slice (some ⟨goa230, 0, none⟩) 64 64) x9_1) ∧ Aside0 (Below w.heap.size w wc))
    case first =>
     have H := HC6.out
     clear HC6
     have H' := Aside0.mk H
     clear H
     go_wp2
     repeat (go_quiet (fail); try go_wp2)
     go_loopg [8] k1 (fun kq v8 w' => ∃ (x8_2 : Int), v8 = .int .i64 x8_2 ∧ Aside0 (endonymref4_Blocks.l1 kq l0 a1 x6_1 x7_1 x8_2 x9_1 x10_1 x11_1 = some (r1, r2)) ∧ Aside0 (kq ≤ k1) ∧ Aside0 (Kd.R (Kd.int .u16) 49 w' w.heap.size (fun _ => True) u6 x6_1) ∧ Aside0 (Kd.R (Kd.arr 64 (Kd.int .u16) (by decide)) 50 w' w.heap.size (fun k_ => some k_ ≠ ((.slice (some ⟨goa230, 0, none⟩) 64 64) : Value).ownBlock) u7 x7_1) ∧ Aside0 (Kd.R (Kd.int .u16) 50 w' w.heap.size (fun k_ => some k_ ≠ (u7 : Value).ownBlock) (.slice (some ⟨goa230, 0, none⟩) 64 64) x9_1) ∧ Aside0 (Below w.heap.size w w'))
     case atStart => exact ⟨(x8_1), (by first | rfl | (simp; done) | (simp [*]; done)), H', ⟨Nat.le_refl _⟩, ⟨by (with_reducible repeat (first | apply Kd.R_alloc | apply Kd.R_drewN | apply Kd.R_drew)); exact HO_6.out⟩, ⟨by (with_reducible repeat (first | apply Kd.R_alloc | apply Kd.R_drewN | apply Kd.R_drew)); first | exact HO_7.out | exact Kd.R_mono HO_7.out (fun _ hk => (by first | exact hk | exact fun e_ => hk (e_.trans (own_len _ _ _ _ _))))⟩, ⟨by (with_reducible repeat (first | apply Kd.R_alloc | apply Kd.R_drewN | apply Kd.R_drew)); first | exact HO_9.out | exact Kd.R_mono HO_9.out (fun _ hk => (by first | exact hk | exact fun e_ => hk (e_.trans (own_len _ _ _ _ _))))⟩, ⟨by repeat (first | (with_reducible first | exact HB.out | apply below_alloc | apply pw_below_drewN | apply below_drew1) | exact HB.out)⟩⟩
     case round =>
      clear H'
      (try clear c1); (try clear p2); (try clear c5); (try clear c5b0); (try clear p2)
      obtain ⟨x8_2, rfl, HA, HK2, HO_6, HO_7, HO_9, HB⟩ := hrel
      cases gk with
      | zero => exact absurd HA.out (by simp [endonymref4_Blocks.l1])
      | succ k2 =>
       have H := HA.out
       clear HA
       simp only [endonymref4_Blocks.l1] at H
       by_cases c7 : x8_2 < (l0.length : Int)
       ·rw [if_pos c7] at H
        have c7b0 : decide (x8_2 < (l0.length : Int)) = true := decide_eq_true c7
        clear c7
        (first | rw [c7b0] | (simp only [i64_w, i32_w]; rw [c7b0]) | skip)
        by_cases c8 : 0 ≤ x8_2
        ·rw [if_pos c8] at H
         have c8b0 : decide (0 ≤ x8_2) = true := decide_eq_true c8
         clear c8
         by_cases c9 : ((rd_T35 l0 x8_2).f1) < (wrap64 (64 * x11_1))
         ·rw [if_pos c9] at H
          have c9b0 : decide (((rd_T35 l0 x8_2).f1) < (wrap64 (64 * x11_1))) = true := decide_eq_true c9
          clear c9
          have H' := Aside0.mk H
          clear H
          have p231 : 0 ≤ (x8_2 : Int) := of_decide_eq_true (by first | (with_reducible assumption) | assumption)
          have q231 : x8_2 < (l0.length : Int) := of_decide_eq_true (by first | (with_reducible assumption) | assumption)
          obtain ⟨ad231, e231, hx231_0, hx231_1, hx231_2⟩ := at_T35 HR0.out x8_2 p231 q231
          cases e231
          replace hx231_0 := (HB.out.cell (World.block_lt_of_cell? w _ hx231_0)).trans hx231_0
          replace hx231_1 := (HB.out.cell (World.block_lt_of_cell? w _ hx231_1)).trans hx231_1
          replace hx231_2 := (HB.out.cell (World.block_lt_of_cell? w _ hx231_2)).trans hx231_2
          replace p231 := eq_true p231; replace q231 := eq_true q231
          go_wp2
          repeat (go_quiet (fail); try go_wp2)
          go_roundg k2
          case measure => have := HK1.out; have := HK2.out; omega
          case rel => exact ⟨(wrap64 (x8_2 + 1)), (by first | rfl | (simp; done) | (simp [*]; done)), H', ⟨by have := HK1.out; have := HK2.out; omega⟩, ⟨by (with_reducible repeat (first | apply Kd.R_alloc | apply Kd.R_drewN | apply Kd.R_drew)); exact HO_6.out⟩, ⟨by (with_reducible repeat (first | apply Kd.R_alloc | apply Kd.R_drewN | apply Kd.R_drew)); first | exact HO_7.out | exact Kd.R_mono HO_7.out (fun _ hk => (by first | exact hk | exact fun e_ => hk (e_.trans (own_len _ _ _ _ _))))⟩, ⟨by (with_reducible repeat (first | apply Kd.R_alloc | apply Kd.R_drewN | apply Kd.R_drew)); first | exact HO_9.out | exact Kd.R_mono HO_9.out (fun _ hk => (by first | exact hk | exact fun e_ => hk (e_.trans (own_len _ _ _ _ _))))⟩, ⟨by repeat (first | (with_reducible first | exact HB.out | apply below_alloc | apply pw_below_drewN | apply below_drew1) | exact HB.out)⟩⟩
         ·rw [if_neg c9] at H
          have c9b0 : decide (((rd_T35 l0 x8_2).f1) < (wrap64 (64 * x11_1))) = false := decide_eq_false c9
          clear c9
          have H' := Aside0.mk H
          clear H
          have p231 : 0 ≤ (x8_2 : Int) := of_decide_eq_true (by first | (with_reducible assumption) | assumption)
          have q231 : x8_2 < (l0.length : Int) := of_decide_eq_true (by first | (with_reducible assumption) | assumption)
          obtain ⟨ad231, e231, hx231_0, hx231_1, hx231_2⟩ := at_T35 HR0.out x8_2 p231 q231
          cases e231
          replace hx231_0 := (HB.out.cell (World.block_lt_of_cell? w _ hx231_0)).trans hx231_0
          replace hx231_1 := (HB.out.cell (World.block_lt_of_cell? w _ hx231_1)).trans hx231_1
          replace hx231_2 := (HB.out.cell (World.block_lt_of_cell? w _ hx231_2)).trans hx231_2
          replace p231 := eq_true p231; replace q231 := eq_true q231
          go_wp2
          repeat (go_quiet (fail); try go_wp2)
          go_meet
          case rel => exact ⟨_, (x8_2), (by first | rfl | (simp; done) | (simp [*]; done)), H', ⟨by have := HK1.out; have := HK2.out; first | omega | exact Nat.le_refl _⟩, ⟨by (with_reducible repeat (first | apply Kd.R_alloc | apply Kd.R_drewN | apply Kd.R_drew)); exact HO_6.out⟩, ⟨by (with_reducible repeat (first | apply Kd.R_alloc | apply Kd.R_drewN | apply Kd.R_drew)); first | exact HO_7.out | exact Kd.R_mono HO_7.out (fun _ hk => (by first | exact hk | exact fun e_ => hk (e_.trans (own_len _ _ _ _ _))))⟩, ⟨by (with_reducible repeat (first | apply Kd.R_alloc | apply Kd.R_drewN | apply Kd.R_drew)); first | exact HO_9.out | exact Kd.R_mono HO_9.out (fun _ hk => (by first | exact hk | exact fun e_ => hk (e_.trans (own_len _ _ _ _ _))))⟩, ⟨by repeat (first | (with_reducible first | exact HB.out | apply below_alloc | apply pw_below_drewN | apply below_drew1) | exact HB.out)⟩⟩
        ·rw [if_neg c8] at H
         exact absurd H (by simp)
       ·rw [if_neg c7] at H
        have c7b0 : decide (x8_2 < (l0.length : Int)) = false := decide_eq_false c7
        clear c7
        (first | rw [c7b0] | (simp only [i64_w, i32_w]; rw [c7b0]) | skip)
        have H' := Aside0.mk H
        clear H
        go_wp2
        repeat (go_quiet (fail); try go_wp2)
        go_meet
        case rel => exact ⟨_, (x8_2), (by first | rfl | (simp; done) | (simp [*]; done)), H', ⟨by have := HK1.out; have := HK2.out; first | omega | exact Nat.le_refl _⟩, ⟨by (with_reducible repeat (first | apply Kd.R_alloc | apply Kd.R_drewN | apply Kd.R_drew)); exact HO_6.out⟩, ⟨by (with_reducible repeat (first | apply Kd.R_alloc | apply Kd.R_drewN | apply Kd.R_drew)); first | exact HO_7.out | exact Kd.R_mono HO_7.out (fun _ hk => (by first | exact hk | exact fun e_ => hk (e_.trans (own_len _ _ _ _ _))))⟩, ⟨by (with_reducible repeat (first | apply Kd.R_alloc | apply Kd.R_drewN | apply Kd.R_drew)); first | exact HO_9.out | exact Kd.R_mono HO_9.out (fun _ hk => (by first | exact hk | exact fun e_ => hk (e_.trans (own_len _ _ _ _ _))))⟩, ⟨by repeat (first | (with_reducible first | exact HB.out | apply below_alloc | apply pw_below_drewN | apply below_drew1) | exact HB.out)⟩⟩
    case rest =>
     clear HC6
     (try clear c1); (try clear p2); (try clear q2); (try clear hx2); (try clear c5); (try clear c5b0); (try clear p6); (try clear c7); (try clear c7b0); (try clear c8); (try clear c8b0); (try clear c9); (try clear c9b0); (try clear hx231_0); (try clear hx231_1); (try clear hx231_2); (try clear p2); (try clear p231); (try clear q231)
     obtain ⟨kq, x8_5, rfl, HA, HJ5, HO_6, HO_7, HO_9, HB⟩ := hcut
     cases kq with
     | zero => exact absurd HA.out (by simp [endonymref4_Blocks.j2])
     | succ kj5 =>
      have H := HA.out
      clear HA
      simp only [endonymref4_Blocks.j2] at H
      have HC10 := Aside0.mk H
      clear H
      go_upto_block 4 with (fail)
      repeat (go_quiet (fail); go_upto_block 4 with (fail))
      go_cut [12] (fun v12 wc => ∃ (kq : Nat) (x12_9 : Int), v12 = .int .i64 x12_9 ∧ Aside0 (endonymref4_Blocks.j4 kq l0 a1 x6_1 x7_1 x8_5 x9_1 x10_1 x11_1 x12_9 = some (r1, r2)) ∧ Aside0 (kq ≤ kj5) ∧ Aside0 (Kd.R (Kd.int .u16) 49 wc w.heap.size (fun _ => True) u6 x6_1) ∧ Aside0 (Kd.R (Kd.arr 64 (Kd.int .u16) (by decide)) 50 wc w.heap.size (fun k_ => some k_ ≠ ((.slice (some ⟨goa230, 0, none⟩) 64 64) : Value).ownBlock) u7 x7_1) ∧ Aside0 (Kd.R (Kd.int .u16) 50 wc w.heap.size (fun k_ => some k_ ≠ (u7 : Value).ownBlock) (.slice (some ⟨goa230, 0, none⟩) 64 64) x9_1) ∧ Aside0 (Below w.heap.size w wc))
      case first =>
       have H := HC10.out
       clear HC10
       have HC11 := Aside0.mk H
       clear H
       go_upto_region 12 with (fail)
       repeat (go_quiet (fail); go_upto_region 12 with (fail))
       go_cut [35] (fun v35 wc => ∃ (kq : Nat) (x35_10 : Bool), v35 = .bool x35_10 ∧ Aside0 (endonymref4_Blocks.j3 kq l0 a1 x6_1 x7_1 x8_5 x9_1 x10_1 x11_1 (-1) x35_10 = some (r1, r2)) ∧ Aside0 (kq ≤ kj5) ∧ Aside0 (Kd.R (Kd.int .u16) 49 wc w.heap.size (fun _ => True) u6 x6_1) ∧ Aside0 (Kd.R (Kd.arr 64 (Kd.int .u16) (by decide)) 50 wc w.heap.size (fun k_ => some k_ ≠ ((.slice (some ⟨goa230, 0, none⟩) 64 64) : Value).ownBlock) u7 x7_1) ∧ Aside0 (Kd.R (Kd.int .u16) 50 wc w.heap.size (fun k_ => some k_ ≠ (u7 : Value).ownBlock) (.slice (some ⟨goa230, 0, none⟩) 64 64) x9_1) ∧ Aside0 (Below w.heap.size w wc))
       case first =>
        have H := HC11.out
        clear HC11
        by_cases c12 : x8_5 = (l0.length : Int)
        ·rw [if_pos c12] at H
         have c12b0 : (x8_5 == (l0.length : Int)) = true := beq_iff_eq.mpr c12
         have c12b1 : (x8_5 != (l0.length : Int)) = false := bne_eq_false_iff_eq.mpr c12
         clear c12
         (first | rw [c12b0] | (simp only [i64_w, i32_w]; rw [c12b0]) | skip)
         have H' := Aside0.mk H
         clear H
         go_wp2
         repeat (go_quiet (fail); try go_wp2)
         go_meet
         case rel => exact ⟨_, (true), (by first | rfl | (simp; done) | (simp [*]; done)), H', ⟨by have := HK1.out; have := HJ5.out; first | omega | exact Nat.le_refl _⟩, ⟨by (with_reducible repeat (first | apply Kd.R_alloc | apply Kd.R_drewN | apply Kd.R_drew)); exact HO_6.out⟩, ⟨by (with_reducible repeat (first | apply Kd.R_alloc | apply Kd.R_drewN | apply Kd.R_drew)); first | exact HO_7.out | exact Kd.R_mono HO_7.out (fun _ hk => (by first | exact hk | exact fun e_ => hk (e_.trans (own_len _ _ _ _ _))))⟩, ⟨by (with_reducible repeat (first | apply Kd.R_alloc | apply Kd.R_drewN | apply Kd.R_drew)); first | exact HO_9.out | exact Kd.R_mono HO_9.out (fun _ hk => (by first | exact hk | exact fun e_ => hk (e_.trans (own_len _ _ _ _ _))))⟩, ⟨by repeat (first | (with_reducible first | exact HB.out | apply below_alloc | apply pw_below_drewN | apply below_drew1) | exact HB.out)⟩⟩
        ·rw [if_neg c12] at H
         have c12b0 : (x8_5 == (l0.length : Int)) = false := beq_eq_false_iff_ne.mpr c12
         have c12b1 : (x8_5 != (l0.length : Int)) = true := bne_iff_ne.mpr c12
         (first | rw [c12b0] | (simp only [i64_w, i32_w]; rw [c12b0]) | skip)
         by_cases c13 : 0 ≤ x8_5
         ·rw [if_pos c13] at H
          have c13b0 : decide (0 ≤ x8_5) = true := decide_eq_true c13
          clear c13
          by_cases c14 : x8_5 < (l0.length : Int)
          ·rw [if_pos c14] at H
           have c14b0 : decide (x8_5 < (l0.length : Int)) = true := decide_eq_true c14
           clear c14
           have H' := Aside0.mk H
           clear H
           have p232 : 0 ≤ (x8_5 : Int) := of_decide_eq_true (by first | (with_reducible assumption) | assumption)
           have q232 : x8_5 < (l0.length : Int) := of_decide_eq_true (by first | (with_reducible assumption) | assumption)
           obtain ⟨ad232, e232, hx232_0, hx232_1, hx232_2⟩ := at_T35 HR0.out x8_5 p232 q232
           cases e232
           replace hx232_0 := (HB.out.cell (World.block_lt_of_cell? w _ hx232_0)).trans hx232_0
           replace hx232_1 := (HB.out.cell (World.block_lt_of_cell? w _ hx232_1)).trans hx232_1
           replace hx232_2 := (HB.out.cell (World.block_lt_of_cell? w _ hx232_2)).trans hx232_2
           replace p232 := eq_true p232; replace q232 := eq_true q232
           go_wp2
           repeat (go_quiet (fail); try go_wp2)
           go_meet
           case rel => exact ⟨_, (decide (((rd_T35 l0 x8_5).f0) > (wrap64 ((wrap64 (64 * x11_1)) + 63)))), (by first | rfl | (simp; done) | (simp [*]; done)), H', ⟨by have := HK1.out; have := HJ5.out; first | omega | exact Nat.le_refl _⟩, ⟨by (with_reducible repeat (first | apply Kd.R_alloc | apply Kd.R_drewN | apply Kd.R_drew)); exact HO_6.out⟩, ⟨by (with_reducible repeat (first | apply Kd.R_alloc | apply Kd.R_drewN | apply Kd.R_drew)); first | exact HO_7.out | exact Kd.R_mono HO_7.out (fun _ hk => (by first | exact hk | exact fun e_ => hk (e_.trans (own_len _ _ _ _ _))))⟩, ⟨by (with_reducible repeat (first | apply Kd.R_alloc | apply Kd.R_drewN | apply Kd.R_drew)); first | exact HO_9.out | exact Kd.R_mono HO_9.out (fun _ hk => (by first | exact hk | exact fun e_ => hk (e_.trans (own_len _ _ _ _ _))))⟩, ⟨by repeat (first | (with_reducible first | exact HB.out | apply below_alloc | apply pw_below_drewN | apply below_drew1) | exact HB.out)⟩⟩
          ·rw [if_neg c14] at H
           exact absurd H (by simp)
         ·rw [if_neg c13] at H
          exact absurd H (by simp)
       case rest =>
        clear HC11
        (try clear c1); (try clear p2); (try clear q2); (try clear hx2); (try clear c5); (try clear c5b0); (try clear p6); (try clear c7); (try clear c7b0); (try clear c8); (try clear c8b0); (try clear c9); (try clear c9b0); (try clear c12); (try clear c12b0); (try clear c12b1); (try clear c13); (try clear c13b0); (try clear c14); (try clear c14b0); (try clear hx231_0); (try clear hx231_1); (try clear hx231_2); (try clear hx232_0); (try clear hx232_1); (try clear hx232_2); (try clear p2); (try clear p231); (try clear p232); (try clear p6); (try clear q2); (try clear q231); (try clear q232)
        obtain ⟨kq, x35_10, rfl, HA, HJ10, HO_6, HO_7, HO_9, HB⟩ := hcut
        cases kq with
        | zero => exact absurd HA.out (by simp [endonymref4_Blocks.j3])
        | succ kj10 =>
         have H := HA.out
         clear HA
         simp only [endonymref4_Blocks.j3] at H
         by_cases c15 : x35_10 = true
         ·subst c15
          have H1 : (endonymref4_Blocks.j4 kj10 l0 a1 x6_1 x7_1 x8_5 x9_1 x10_1 x11_1 a1) = some (r1, r2) := by rw [if_pos rfl] at H; exact H
          clear H; have H := H1; clear H1
          have H' := Aside0.mk H
          clear H
          go_wp2
          repeat (go_quiet (fail); try go_wp2)
          go_meet
          case rel => exact ⟨_, (a1), (by first | rfl | (simp; done) | (simp [*]; done)), H', ⟨by have := HK1.out; have := HJ5.out; have := HJ10.out; first | omega | exact Nat.le_refl _⟩, ⟨by (with_reducible repeat (first | apply Kd.R_alloc | apply Kd.R_drewN | apply Kd.R_drew)); exact HO_6.out⟩, ⟨by (with_reducible repeat (first | apply Kd.R_alloc | apply Kd.R_drewN | apply Kd.R_drew)); first | exact HO_7.out | exact Kd.R_mono HO_7.out (fun _ hk => (by first | exact hk | exact fun e_ => hk (e_.trans (own_len _ _ _ _ _))))⟩, ⟨by (with_reducible repeat (first | apply Kd.R_alloc | apply Kd.R_drewN | apply Kd.R_drew)); first | exact HO_9.out | exact Kd.R_mono HO_9.out (fun _ hk => (by first | exact hk | exact fun e_ => hk (e_.trans (own_len _ _ _ _ _))))⟩, ⟨by repeat (first | (with_reducible first | exact HB.out | apply below_alloc | apply pw_below_drewN | apply below_drew1) | exact HB.out)⟩⟩
         ·replace c15 := Bool.eq_false_iff.mpr c15
          subst c15
          have H1 : (if 0 ≤ x8_5 then (if x8_5 < (l0.length : Int) then (if ((rd_T35 l0 x8_5).f0) ≤ (wrap64 (64 * x11_1)) then (if ((rd_T35 l0 x8_5).f1) ≥ (wrap64 ((wrap64 (64 * x11_1)) + 63)) then (endonymref4_Blocks.j4 kj10 l0 a1 x6_1 x7_1 x8_5 x9_1 x10_1 x11_1 ((rd_T35 l0 x8_5).f2)) else (endonymref4_Blocks.j4 kj10 l0 a1 x6_1 x7_1 x8_5 x9_1 x10_1 x11_1 (-1))) else (endonymref4_Blocks.j4 kj10 l0 a1 x6_1 x7_1 x8_5 x9_1 x10_1 x11_1 (-1))) else (none)) else (none)) = some (r1, r2) := by rw [if_neg (show ¬ (false = true) by decide)] at H; exact H
          clear H; have H := H1; clear H1
          by_cases c16 : 0 ≤ x8_5
          ·rw [if_pos c16] at H
           have c16b0 : decide (0 ≤ x8_5) = true := decide_eq_true c16
           clear c16
           by_cases c17 : x8_5 < (l0.length : Int)
           ·rw [if_pos c17] at H
            have c17b0 : decide (x8_5 < (l0.length : Int)) = true := decide_eq_true c17
            clear c17
            by_cases c18 : ((rd_T35 l0 x8_5).f0) ≤ (wrap64 (64 * x11_1))
            ·rw [if_pos c18] at H
             have c18b0 : decide (((rd_T35 l0 x8_5).f0) ≤ (wrap64 (64 * x11_1))) = true := decide_eq_true c18
             clear c18
             by_cases c19 : ((rd_T35 l0 x8_5).f1) ≥ (wrap64 ((wrap64 (64 * x11_1)) + 63))
             ·rw [if_pos c19] at H
              have c19b0 : decide ((wrap64 ((wrap64 (64 * x11_1)) + 63)) ≤ ((rd_T35 l0 x8_5).f1)) = true := decide_eq_true c19
              clear c19
              have H' := Aside0.mk H
              clear H
              have p233 : 0 ≤ (x8_5 : Int) := of_decide_eq_true (by first | (with_reducible assumption) | assumption)
              have q233 : x8_5 < (l0.length : Int) := of_decide_eq_true (by first | (with_reducible assumption) | assumption)
              obtain ⟨ad233, e233, hx233_0, hx233_1, hx233_2⟩ := at_T35 HR0.out x8_5 p233 q233
              cases e233
              replace hx233_0 := (HB.out.cell (World.block_lt_of_cell? w _ hx233_0)).trans hx233_0
              replace hx233_1 := (HB.out.cell (World.block_lt_of_cell? w _ hx233_1)).trans hx233_1
              replace hx233_2 := (HB.out.cell (World.block_lt_of_cell? w _ hx233_2)).trans hx233_2
              replace p233 := eq_true p233; replace q233 := eq_true q233
              have p234 : 0 ≤ (x8_5 : Int) := of_decide_eq_true (by first | (with_reducible assumption) | assumption)
              have q234 : x8_5 < (l0.length : Int) := of_decide_eq_true (by first | (with_reducible assumption) | assumption)
              obtain ⟨ad234, e234, hx234_0, hx234_1, hx234_2⟩ := at_T35 HR0.out x8_5 p234 q234
              obtain rfl : ad233 = ad234 := (by injection e234)
              replace hx234_0 := (HB.out.cell (World.block_lt_of_cell? w _ hx234_0)).trans hx234_0
              replace hx234_1 := (HB.out.cell (World.block_lt_of_cell? w _ hx234_1)).trans hx234_1
              replace hx234_2 := (HB.out.cell (World.block_lt_of_cell? w _ hx234_2)).trans hx234_2
              replace p234 := eq_true p234; replace q234 := eq_true q234
              have p235 : 0 ≤ (x8_5 : Int) := of_decide_eq_true (by first | (with_reducible assumption) | assumption)
              have q235 : x8_5 < (l0.length : Int) := of_decide_eq_true (by first | (with_reducible assumption) | assumption)
              obtain ⟨ad235, e235, hx235_0, hx235_1, hx235_2⟩ := at_T35 HR0.out x8_5 p235 q235
              obtain rfl : ad233 = ad235 := (by injection e235)
              replace hx235_0 := (HB.out.cell (World.block_lt_of_cell? w _ hx235_0)).trans hx235_0
              replace hx235_1 := (HB.out.cell (World.block_lt_of_cell? w _ hx235_1)).trans hx235_1
              replace hx235_2 := (HB.out.cell (World.block_lt_of_cell? w _ hx235_2)).trans hx235_2
              replace p235 := eq_true p235; replace q235 := eq_true q235
              go_wp2
              repeat (go_quiet (fail); try go_wp2)
              go_meet
              case rel => exact ⟨_, ((rd_T35 l0 x8_5).f2), (by first | rfl | (simp; done) | (simp [*]; done)), H', ⟨by have := HK1.out; have := HJ5.out; have := HJ10.out; first | omega | exact Nat.le_refl _⟩, ⟨by (with_reducible repeat (first | apply Kd.R_alloc | apply Kd.R_drewN | apply Kd.R_drew)); exact HO_6.out⟩, ⟨by (with_reducible repeat (first | apply Kd.R_alloc | apply Kd.R_drewN | apply Kd.R_drew)); first | exact HO_7.out | exact Kd.R_mono HO_7.out (fun _ hk => (by first | exact hk | exact fun e_ => hk (e_.trans (own_len _ _ _ _ _))))⟩, ⟨by (with_reducible repeat (first | apply Kd.R_alloc | apply Kd.R_drewN | apply Kd.R_drew)); first | exact HO_9.out | exact Kd.R_mono HO_9.out (fun _ hk => (by first | exact hk | exact fun e_ => hk (e_.trans (own_len _ _ _ _ _))))⟩, ⟨by repeat (first | (with_reducible first | exact HB.out | apply below_alloc | apply pw_below_drewN | apply below_drew1) | exact HB.out)⟩⟩
             ·rw [if_neg c19] at H
              have c19b0 : decide ((wrap64 ((wrap64 (64 * x11_1)) + 63)) ≤ ((rd_T35 l0 x8_5).f1)) = false := decide_eq_false c19
              clear c19
              have H' := Aside0.mk H
              clear H
              have p233 : 0 ≤ (x8_5 : Int) := of_decide_eq_true (by first | (with_reducible assumption) | assumption)
              have q233 : x8_5 < (l0.length : Int) := of_decide_eq_true (by first | (with_reducible assumption) | assumption)
              obtain ⟨ad233, e233, hx233_0, hx233_1, hx233_2⟩ := at_T35 HR0.out x8_5 p233 q233
              cases e233
              replace hx233_0 := (HB.out.cell (World.block_lt_of_cell? w _ hx233_0)).trans hx233_0
              replace hx233_1 := (HB.out.cell (World.block_lt_of_cell? w _ hx233_1)).trans hx233_1
              replace hx233_2 := (HB.out.cell (World.block_lt_of_cell? w _ hx233_2)).trans hx233_2
              replace p233 := eq_true p233; replace q233 := eq_true q233
              have p234 : 0 ≤ (x8_5 : Int) := of_decide_eq_true (by first | (with_reducible assumption) | assumption)
              have q234 : x8_5 < (l0.length : Int) := of_decide_eq_true (by first | (with_reducible assumption) | assumption)
              obtain ⟨ad234, e234, hx234_0, hx234_1, hx234_2⟩ := at_T35 HR0.out x8_5 p234 q234
              obtain rfl : ad233 = ad234 := (by injection e234)
              replace hx234_0 := (HB.out.cell (World.block_lt_of_cell? w _ hx234_0)).trans hx234_0
              replace hx234_1 := (HB.out.cell (World.block_lt_of_cell? w _ hx234_1)).trans hx234_1
              replace hx234_2 := (HB.out.cell (World.block_lt_of_cell? w _ hx234_2)).trans hx234_2
              replace p234 := eq_true p234; replace q234 := eq_true q234
              go_wp2
              repeat (go_quiet (fail); try go_wp2)
              go_meet
              case rel => exact ⟨_, ((-1)), (by first | rfl | (simp; done) | (simp [*]; done)), H', ⟨by have := HK1.out; have := HJ5.out; have := HJ10.out; first | omega | exact Nat.le_refl _⟩, ⟨by (with_reducible repeat (first | apply Kd.R_alloc | apply Kd.R_drewN | apply Kd.R_drew)); exact HO_6.out⟩, ⟨by (with_reducible repeat (first | apply Kd.R_alloc | apply Kd.R_drewN | apply Kd.R_drew)); first | exact HO_7.out | exact Kd.R_mono HO_7.out (fun _ hk => (by first | exact hk | exact fun e_ => hk (e_.trans (own_len _ _ _ _ _))))⟩, ⟨by (with_reducible repeat (first | apply Kd.R_alloc | apply Kd.R_drewN | apply Kd.R_drew)); first | exact HO_9.out | exact Kd.R_mono HO_9.out (fun _ hk => (by first | exact hk | exact fun e_ => hk (e_.trans (own_len _ _ _ _ _))))⟩, ⟨by repeat (first | (with_reducible first | exact HB.out | apply below_alloc | apply pw_below_drewN | apply below_drew1) | exact HB.out)⟩⟩
            ·rw [if_neg c18] at H
             have c18b0 : decide (((rd_T35 l0 x8_5).f0) ≤ (wrap64 (64 * x11_1))) = false := decide_eq_false c18
             clear c18
             have H' := Aside0.mk H
             clear H
             have p233 : 0 ≤ (x8_5 : Int) := of_decide_eq_true (by first | (with_reducible assumption) | assumption)
             have q233 : x8_5 < (l0.length : Int) := of_decide_eq_true (by first | (with_reducible assumption) | assumption)
             obtain ⟨ad233, e233, hx233_0, hx233_1, hx233_2⟩ := at_T35 HR0.out x8_5 p233 q233
             cases e233
             replace hx233_0 := (HB.out.cell (World.block_lt_of_cell? w _ hx233_0)).trans hx233_0
             replace hx233_1 := (HB.out.cell (World.block_lt_of_cell? w _ hx233_1)).trans hx233_1
             replace hx233_2 := (HB.out.cell (World.block_lt_of_cell? w _ hx233_2)).trans hx233_2
             replace p233 := eq_true p233; replace q233 := eq_true q233
             go_wp2
             repeat (go_quiet (fail); try go_wp2)
             go_meet
             case rel => exact ⟨_, ((-1)), (by first | rfl | (simp; done) | (simp [*]; done)), H', ⟨by have := HK1.out; have := HJ5.out; have := HJ10.out; first | omega | exact Nat.le_refl _⟩, ⟨by (with_reducible repeat (first | apply Kd.R_alloc | apply Kd.R_drewN | apply Kd.R_drew)); exact HO_6.out⟩, ⟨by (with_reducible repeat (first | apply Kd.R_alloc | apply Kd.R_drewN | apply Kd.R_drew)); first | exact HO_7.out | exact Kd.R_mono HO_7.out (fun _ hk => (by first | exact hk | exact fun e_ => hk (e_.trans (own_len _ _ _ _ _))))⟩, ⟨by (with_reducible repeat (first | apply Kd.R_alloc | apply Kd.R_drewN | apply Kd.R_drew)); first | exact HO_9.out | exact Kd.R_mono HO_9.out (fun _ hk => (by first | exact hk | exact fun e_ => hk (e_.trans (own_len _ _ _ _ _))))⟩, ⟨by repeat (first | (with_reducible first | exact HB.out | apply below_alloc | apply pw_below_drewN | apply below_drew1) | exact HB.out)⟩⟩
           ·rw [if_neg c17] at H
            exact absurd H (by simp)
          ·rw [if_neg c16] at H
           exact absurd H (by simp)
      case rest =>
       clear HC10
       (try clear c1); (try clear p2); (try clear q2); (try clear hx2); (try clear c5); (try clear c5b0); (try clear p6); (try clear c7); (try clear c7b0); (try clear c8); (try clear c8b0); (try clear c9); (try clear c9b0); (try clear c12); (try clear c12b0); (try clear c12b1); (try clear c13); (try clear c13b0); (try clear c14); (try clear c14b0); (try clear c15); (try clear c16); (try clear c16b0); (try clear c17); (try clear c17b0); (try clear c18); (try clear c18b0); (try clear c19); (try clear c19b0); (try clear hx231_0); (try clear hx231_1); (try clear hx231_2); (try clear hx232_0); (try clear hx232_1); (try clear hx232_2); (try clear hx233_0); (try clear hx233_1); (try clear hx233_2); (try clear hx234_0); (try clear hx234_1); (try clear hx234_2); (try clear hx235_0); (try clear hx235_1); (try clear hx235_2); (try clear p2); (try clear p231); (try clear p232); (try clear p233); (try clear p234); (try clear p235); (try clear p6); (try clear q2); (try clear q231); (try clear q232); (try clear q233); (try clear q234); (try clear q235)
       obtain ⟨kq, x12_9, rfl, HA, HJ9, HO_6, HO_7, HO_9, HB⟩ := hcut
       cases kq with
       | zero => exact absurd HA.out (by simp [endonymref4_Blocks.j4])
       | succ kj9 =>
        have H := HA.out
        clear HA
        simp only [endonymref4_Blocks.j4] at H
        have HC20 := Aside0.mk H
        clear H
        go_upto_region 16 with (fail)
        repeat (go_quiet (fail); go_upto_region 16 with (fail))
        go_cut [83] (fun v83 wc => ∃ (kq : Nat) (x83_19 : Bool), v83 = .bool x83_19 ∧ Aside0 (endonymref4_Blocks.j5 kq l0 a1 x6_1 x7_1 x8_5 x9_1 x10_1 x11_1 x12_9 x83_19 = some (r1, r2)) ∧ Aside0 (kq ≤ kj9) ∧ Aside0 (Kd.R (Kd.int .u16) 49 wc w.heap.size (fun _ => True) u6 x6_1) ∧ Aside0 (Kd.R (Kd.arr 64 (Kd.int .u16) (by decide)) 50 wc w.heap.size (fun k_ => some k_ ≠ ((.slice (some ⟨goa230, 0, none⟩) 64 64) : Value).ownBlock) u7 x7_1) ∧ Aside0 (Kd.R (Kd.int .u16) 50 wc w.heap.size (fun k_ => some k_ ≠ (u7 : Value).ownBlock) (.slice (some ⟨goa230, 0, none⟩) 64 64) x9_1) ∧ Aside0 (Below w.heap.size w wc))
        case first =>
         have H := HC20.out
         clear HC20
         by_cases c21 : x12_9 ≥ 0
         ·rw [if_pos c21] at H
          have c21b0 : decide (0 ≤ x12_9) = true := decide_eq_true c21
          clear c21
          (first | rw [c21b0] | (simp only [i64_w, i32_w]; rw [c21b0]) | skip)
          have H' := Aside0.mk H
          clear H
          go_wp2
          repeat (go_quiet (fail); try go_wp2)
          go_meet
          case rel => exact ⟨_, ((x12_9 == x10_1)), (by first | rfl | (simp; done) | (simp [*]; done)), H', ⟨by have := HK1.out; have := HJ5.out; have := HJ9.out; first | omega | exact Nat.le_refl _⟩, ⟨by (with_reducible repeat (first | apply Kd.R_alloc | apply Kd.R_drewN | apply Kd.R_drew)); exact HO_6.out⟩, ⟨by (with_reducible repeat (first | apply Kd.R_alloc | apply Kd.R_drewN | apply Kd.R_drew)); first | exact HO_7.out | exact Kd.R_mono HO_7.out (fun _ hk => (by first | exact hk | exact fun e_ => hk (e_.trans (own_len _ _ _ _ _))))⟩, ⟨by (with_reducible repeat (first | apply Kd.R_alloc | apply Kd.R_drewN | apply Kd.R_drew)); first | exact HO_9.out | exact Kd.R_mono HO_9.out (fun _ hk => (by first | exact hk | exact fun e_ => hk (e_.trans (own_len _ _ _ _ _))))⟩, ⟨by repeat (first | (with_reducible first | exact HB.out | apply below_alloc | apply pw_below_drewN | apply below_drew1) | exact HB.out)⟩⟩
         ·rw [if_neg c21] at H
          have c21b0 : decide (0 ≤ x12_9) = false := decide_eq_false c21
          clear c21
          (first | rw [c21b0] | (simp only [i64_w, i32_w]; rw [c21b0]) | skip)
          have H' := Aside0.mk H
          clear H
          go_wp2
          repeat (go_quiet (fail); try go_wp2)
          go_meet
          case rel => exact ⟨_, (false), (by first | rfl | (simp; done) | (simp [*]; done)), H', ⟨by have := HK1.out; have := HJ5.out; have := HJ9.out; first | omega | exact Nat.le_refl _⟩, ⟨by (with_reducible repeat (first | apply Kd.R_alloc | apply Kd.R_drewN | apply Kd.R_drew)); exact HO_6.out⟩, ⟨by (with_reducible repeat (first | apply Kd.R_alloc | apply Kd.R_drewN | apply Kd.R_drew)); first | exact HO_7.out | exact Kd.R_mono HO_7.out (fun _ hk => (by first | exact hk | exact fun e_ => hk (e_.trans (own_len _ _ _ _ _))))⟩, ⟨by (with_reducible repeat (first | apply Kd.R_alloc | apply Kd.R_drewN | apply Kd.R_drew)); first | exact HO_9.out | exact Kd.R_mono HO_9.out (fun _ hk => (by first | exact hk | exact fun e_ => hk (e_.trans (own_len _ _ _ _ _))))⟩, ⟨by repeat (first | (with_reducible first | exact HB.out | apply below_alloc | apply pw_below_drewN | apply below_drew1) | exact HB.out)⟩⟩
        case rest =>
         clear HC20
         (try clear c1); (try clear c2); (try clear p2); (try clear q2); (try clear hx2); (try clear c5); (try clear c5b0); (try clear p6); (try clear c7); (try clear c7b0); (try clear c8); (try clear c8b0); (try clear c9); (try clear c9b0); (try clear c12); (try clear c12b0); (try clear c12b1); (try clear c13); (try clear c13b0); (try clear c14); (try clear c14b0); (try clear c15); (try clear c16); (try clear c16b0); (try clear c17); (try clear c17b0); (try clear c18); (try clear c18b0); (try clear c19); (try clear c19b0); (try clear c21); (try clear c21b0); (try clear hx231_0); (try clear hx231_1); (try clear hx231_2); (try clear hx232_0); (try clear hx232_1); (try clear hx232_2); (try clear hx233_0); (try clear hx233_1); (try clear hx233_2); (try clear hx234_0); (try clear hx234_1); (try clear hx234_2); (try clear hx235_0); (try clear hx235_1); (try clear hx235_2); (try clear p2); (try clear p231); (try clear p232); (try clear p233); (try clear p234); (try clear p235); (try clear p6); (try clear q2); (try clear q231); (try clear q232); (try clear q233); (try clear q234); (try clear q235)
         obtain ⟨kq, x83_19, rfl, HA, HJ19, HO_6, HO_7, HO_9, HB⟩ := hcut
         cases kq with
         | zero => exact absurd HA.out (by simp [endonymref4_Blocks.j5])
         | succ kj19 =>
          have H := HA.out
          clear HA
          simp only [endonymref4_Blocks.j5] at H
          by_cases c22 : x83_19 = true
          ·subst c22
           have H1 : (if 0 ≤ (wrap64 (x11_1 - 1)) then (if (wrap64 (x11_1 - 1)) < (x6_1.length : Int) then (if x6_1.length < 70368744177664 then (endonymref4_Blocks.l0 kj19 l0 a1 (x6_1 ++ [rd x6_1 (wrap64 (x11_1 - 1))]) x7_1 x8_5 x9_1 x10_1 (wrap64 (x11_1 + 1))) else (none)) else (none)) else (none)) = some (r1, r2) := by rw [if_pos rfl] at H; exact H
           clear H; have H := H1; clear H1
           obtain ⟨ji23, hji23⟩ : ∃ j_ : Int, (wrap64 (x11_1 - 1)) = j_ := ⟨_, rfl⟩
           replace H : (if 0 ≤ (ji23) then (if (ji23) < (x6_1.length : Int) then (if x6_1.length < 70368744177664 then (endonymref4_Blocks.l0 kj19 l0 a1 (x6_1 ++ [rd x6_1 (ji23)]) x7_1 x8_5 x9_1 x10_1 (wrap64 (x11_1 + 1))) else (none)) else (none)) else (none)) = some (r1, r2) := by first | (rw [hji23] at H; exact H) | (simp only [hji23] at H ⊢; exact H)
           have hji23w : (IntKind.i64.wrap (x11_1 - 1)) = ji23 := (i64_w _).trans hji23
           by_cases c24 : 0 ≤ (ji23)
           ·rw [if_pos c24] at H
            have c24b0 : decide (0 ≤ (ji23)) = true := decide_eq_true c24
            clear c24
            by_cases c25 : (ji23) < (x6_1.length : Int)
            ·rw [if_pos c25] at H
             have c25b0 : decide ((ji23) < (x6_1.length : Int)) = true := decide_eq_true c25
             clear c25
             by_cases c26 : x6_1.length < 70368744177664
             ·rw [if_pos c26] at H
              have LMc26 := Aside0.mk c26
              clear c26
              obtain ⟨y237, hy237⟩ : ∃ y_ : List Int, y_ = (x6_1 ++ [rd x6_1 (ji23)]) := ⟨_, rfl⟩
              replace H : (endonymref4_Blocks.l0 kj19 l0 a1 y237 x7_1 x8_5 x9_1 x10_1 (wrap64 (x11_1 + 1))) = some (r1, r2) := by first | (rw [hy237]; with_reducible exact H) | (have H2_ := (Option.bind_some _ _).symm.trans H; rw [hy237]; with_reducible exact H2_) | (have H2_ := (Option.bind_some _ _).symm.trans H; with_reducible exact H2_) | with_reducible exact H | (rw [hy237]; exact H) | exact H
              have Ny237 := Aside0.mk hy237
              clear hy237
              have H' := Aside0.mk H
              clear H
              obtain ⟨Ao27, co27, eo27⟩ := Kd.R_slice HO_6.out
              subst eo27
              have p236 : 0 ≤ ((ji23) : Int) := of_decide_eq_true (by first | (with_reducible assumption) | assumption)
              have q236 : (ji23) < (x6_1.length : Int) := of_decide_eq_true (by first | (with_reducible assumption) | assumption)
              obtain ⟨ad236, e236, hx236_0⟩ := Kd.at_int (Kd.R_reads' HO_6.out).2.2 (ji23) p236 q236
              cases e236; replace p236 := eq_true p236; replace q236 := eq_true q236
              go_wp2_with (first | ((with_reducible refine gate_builtin (b := .append) (xs := #[.tmp 84, .tmp 90]) rfl ?_); at_builtin; refine Kd.R_append (Kd.int .u16) (w0 := w) w.heap.size rfl (.tmp 84) (.tmp 90) 43 49 (.int .u16 0) 2 rfl Try.underlying43 info49 rfl (by decide) (by omega) (.slice (some ad236) x6_1.length co27) x6_1 (rd x6_1 (ji23)) [.int .u16 (rd x6_1 (ji23))] (fun _ => True) (fun _ => False) rfl rfl ?aP (fun _ hk => hk.elim) ?aF ?aO ?aB ?aS ?aL ?_; (case aP => exact rfl); (case aB => exact (by repeat (first | (with_reducible first | exact HB.out | apply below_alloc | apply pw_below_drewN | apply below_drew1) | exact HB.out))); (case aF => exact (fun _ _ => trivial)); (case aO => exact (by (with_reducible repeat (first | apply Kd.R_alloc | apply Kd.R_drewN | apply Kd.R_drew)); exact HO_6.out)); (case aS => exact (below_size (by repeat (first | (with_reducible first | exact HB.out | apply below_alloc | apply pw_below_drewN | apply below_drew1) | exact HB.out)))); (case aL => have := LMc26.out; omega); intro v238 w28 ho hb hg hat; rw [← Ny237.out] at ho; have n0_ := Aside0.mk (Kd.R_over' (by (with_reducible repeat (first | apply Kd.R_alloc | apply Kd.R_drewN | apply Kd.R_drew)); first | exact HO_7.out | exact Kd.R_mono HO_7.out (fun _ hk => (by first | exact hk | exact fun e_ => hk (e_.trans (own_len _ _ _ _ _))))) (Kd.R_typed (by (with_reducible repeat (first | apply Kd.R_alloc | apply Kd.R_drewN | apply Kd.R_drew)); exact HO_6.out)) (by decide) hg); have n1_ := Aside0.mk (Kd.R_over' (by (with_reducible repeat (first | apply Kd.R_alloc | apply Kd.R_drewN | apply Kd.R_drew)); first | exact HO_9.out | exact Kd.R_mono HO_9.out (fun _ hk => (by first | exact hk | exact fun e_ => hk (e_.trans (own_len _ _ _ _ _))))) (Kd.R_typed (by (with_reducible repeat (first | apply Kd.R_alloc | apply Kd.R_drewN | apply Kd.R_drew)); exact HO_6.out)) (by decide) hg); have n2_ := Aside0.mk (hb); have n3_ := Aside0.mk (ho); clear HO_7; clear HO_9; clear HB; clear HO_6; have HO_7 := n0_; have HO_9 := n1_; have HB := n2_; have HO239 := n3_; clear n0_ n1_ n2_ n3_; clear ho hb hg hat))
              repeat (go_quiet (first | ((with_reducible refine gate_builtin (b := .append) (xs := #[.tmp 84, .tmp 90]) rfl ?_); at_builtin; refine Kd.R_append (Kd.int .u16) (w0 := w) w.heap.size rfl (.tmp 84) (.tmp 90) 43 49 (.int .u16 0) 2 rfl Try.underlying43 info49 rfl (by decide) (by omega) (.slice (some ad236) x6_1.length co27) x6_1 (rd x6_1 (ji23)) [.int .u16 (rd x6_1 (ji23))] (fun _ => True) (fun _ => False) rfl rfl ?aP (fun _ hk => hk.elim) ?aF ?aO ?aB ?aS ?aL ?_; (case aP => exact rfl); (case aB => exact (by repeat (first | (with_reducible first | exact HB.out | apply below_alloc | apply pw_below_drewN | apply below_drew1) | exact HB.out))); (case aF => exact (fun _ _ => trivial)); (case aO => exact (by (with_reducible repeat (first | apply Kd.R_alloc | apply Kd.R_drewN | apply Kd.R_drew)); exact HO_6.out)); (case aS => exact (below_size (by repeat (first | (with_reducible first | exact HB.out | apply below_alloc | apply pw_below_drewN | apply below_drew1) | exact HB.out)))); (case aL => have := LMc26.out; omega); intro v238 w28 ho hb hg hat; rw [← Ny237.out] at ho; have n0_ := Aside0.mk (Kd.R_over' (by (with_reducible repeat (first | apply Kd.R_alloc | apply Kd.R_drewN | apply Kd.R_drew)); first | exact HO_7.out | exact Kd.R_mono HO_7.out (fun _ hk => (by first | exact hk | exact fun e_ => hk (e_.trans (own_len _ _ _ _ _))))) (Kd.R_typed (by (with_reducible repeat (first | apply Kd.R_alloc | apply Kd.R_drewN | apply Kd.R_drew)); exact HO_6.out)) (by decide) hg); have n1_ := Aside0.mk (Kd.R_over' (by (with_reducible repeat (first | apply Kd.R_alloc | apply Kd.R_drewN | apply Kd.R_drew)); first | exact HO_9.out | exact Kd.R_mono HO_9.out (fun _ hk => (by first | exact hk | exact fun e_ => hk (e_.trans (own_len _ _ _ _ _))))) (Kd.R_typed (by (with_reducible repeat (first | apply Kd.R_alloc | apply Kd.R_drewN | apply Kd.R_drew)); exact HO_6.out)) (by decide) hg); have n2_ := Aside0.mk (hb); have n3_ := Aside0.mk (ho); clear HO_7; clear HO_9; clear HB; clear HO_6; have HO_7 := n0_; have HO_9 := n1_; have HB := n2_; have HO239 := n3_; clear n0_ n1_ n2_ n3_; clear ho hb hg hat)); try go_wp2_with (first | ((with_reducible refine gate_builtin (b := .append) (xs := #[.tmp 84, .tmp 90]) rfl ?_); at_builtin; refine Kd.R_append (Kd.int .u16) (w0 := w) w.heap.size rfl (.tmp 84) (.tmp 90) 43 49 (.int .u16 0) 2 rfl Try.underlying43 info49 rfl (by decide) (by omega) (.slice (some ad236) x6_1.length co27) x6_1 (rd x6_1 (ji23)) [.int .u16 (rd x6_1 (ji23))] (fun _ => True) (fun _ => False) rfl rfl ?aP (fun _ hk => hk.elim) ?aF ?aO ?aB ?aS ?aL ?_; (case aP => exact rfl); (case aB => exact (by repeat (first | (with_reducible first | exact HB.out | apply below_alloc | apply pw_below_drewN | apply below_drew1) | exact HB.out))); (case aF => exact (fun _ _ => trivial)); (case aO => exact (by (with_reducible repeat (first | apply Kd.R_alloc | apply Kd.R_drewN | apply Kd.R_drew)); exact HO_6.out)); (case aS => exact (below_size (by repeat (first | (with_reducible first | exact HB.out | apply below_alloc | apply pw_below_drewN | apply below_drew1) | exact HB.out)))); (case aL => have := LMc26.out; omega); intro v238 w28 ho hb hg hat; rw [← Ny237.out] at ho; have n0_ := Aside0.mk (Kd.R_over' (by (with_reducible repeat (first | apply Kd.R_alloc | apply Kd.R_drewN | apply Kd.R_drew)); first | exact HO_7.out | exact Kd.R_mono HO_7.out (fun _ hk => (by first | exact hk | exact fun e_ => hk (e_.trans (own_len _ _ _ _ _))))) (Kd.R_typed (by (with_reducible repeat (first | apply Kd.R_alloc | apply Kd.R_drewN | apply Kd.R_drew)); exact HO_6.out)) (by decide) hg); have n1_ := Aside0.mk (Kd.R_over' (by (with_reducible repeat (first | apply Kd.R_alloc | apply Kd.R_drewN | apply Kd.R_drew)); first | exact HO_9.out | exact Kd.R_mono HO_9.out (fun _ hk => (by first | exact hk | exact fun e_ => hk (e_.trans (own_len _ _ _ _ _))))) (Kd.R_typed (by (with_reducible repeat (first | apply Kd.R_alloc | apply Kd.R_drewN | apply Kd.R_drew)); exact HO_6.out)) (by decide) hg); have n2_ := Aside0.mk (hb); have n3_ := Aside0.mk (ho); clear HO_7; clear HO_9; clear HB; clear HO_6; have HO_7 := n0_; have HO_9 := n1_; have HB := n2_; have HO239 := n3_; clear n0_ n1_ n2_ n3_; clear ho hb hg hat)))
              go_roundg kj19
              case measure => have := HK1.out; have := HJ5.out; have := HJ9.out; have := HJ19.out; omega
              case rel => exact ⟨(y237), (x7_1), (x8_5), (x9_1), (x10_1), (wrap64 (x11_1 + 1)), (by first | rfl | (simp; done) | (simp [*]; done)), (by first | rfl | (simp; done) | (simp [*]; done)), (by first | rfl | (simp; done) | (simp [*]; done)), H', ⟨by have := HK1.out; have := HJ5.out; have := HJ9.out; have := HJ19.out; omega⟩, ⟨by (with_reducible repeat (first | apply Kd.R_alloc | apply Kd.R_drewN | apply Kd.R_drew)); exact HO239.out⟩, ⟨by (with_reducible repeat (first | apply Kd.R_alloc | apply Kd.R_drewN | apply Kd.R_drew)); first | exact HO_7.out | exact Kd.R_mono HO_7.out (fun _ hk => (by first | exact hk | exact fun e_ => hk (e_.trans (own_len _ _ _ _ _))))⟩, ⟨by (with_reducible repeat (first | apply Kd.R_alloc | apply Kd.R_drewN | apply Kd.R_drew)); first | exact HO_9.out | exact Kd.R_mono HO_9.out (fun _ hk => (by first | exact hk | exact fun e_ => hk (e_.trans (own_len _ _ _ _ _))))⟩, ⟨by repeat (first | (with_reducible first | exact HB.out | apply below_alloc | apply pw_below_drewN | apply below_drew1) | exact HB.out)⟩⟩
             ·rw [if_neg c26] at H
              exact absurd H (by simp)
            ·rw [if_neg c25] at H
             exact absurd H (by simp)
           ·rw [if_neg c24] at H
            exact absurd H (by simp)
          ·replace c22 := Bool.eq_false_iff.mpr c22
           subst c22
           have H1 : (endonymref4_Blocks.l2 kj19 l0 a1 x6_1 x7_1 x8_5 x9_1 x11_1 x12_9 x8_5) = some (r1, r2) := by rw [if_neg (show ¬ (false = true) by decide)] at H; exact H
           clear H; have H := H1; clear H1
           have HC29 := Aside0.mk H
           clear H
           go_upto_block 5 with (fail)
           repeat (go_quiet (fail); go_upto_block 5 with (fail))
           go_cut [13] (fun v13 wc => ∃ (kq : Nat) (x13_28 : Int), v13 = .int .i64 x13_28 ∧ Aside0 (endonymref4_Blocks.j7 kq l0 a1 x6_1 x7_1 x8_5 x9_1 x11_1 x12_9 x13_28 = some (r1, r2)) ∧ Aside0 (kq ≤ kj19) ∧ Aside0 (Kd.R (Kd.int .u16) 49 wc w.heap.size (fun _ => True) u6 x6_1) ∧ Aside0 (Kd.R (Kd.arr 64 (Kd.int .u16) (by decide)) 50 wc w.heap.size (fun k_ => some k_ ≠ ((.slice (some ⟨goa230, 0, none⟩) 64 64) : Value).ownBlock) u7 x7_1) ∧ Aside0 (Kd.R (Kd.int .u16) 50 wc w.heap.size (fun k_ => some k_ ≠ (u7 : Value).ownBlock) (.slice (some ⟨goa230, 0, none⟩) 64 64) x9_1) ∧ Aside0 (Below w.heap.size w wc))
           case first =>
            have H := HC29.out
            clear HC29
            have H' := Aside0.mk H
            clear H
            go_wp2
            repeat (go_quiet (fail); try go_wp2)
            go_loopg [13] kj19 (fun kq v13 w' => ∃ (x13_5 : Int), v13 = .int .i64 x13_5 ∧ Aside0 (endonymref4_Blocks.l2 kq l0 a1 x6_1 x7_1 x8_5 x9_1 x11_1 x12_9 x13_5 = some (r1, r2)) ∧ Aside0 (kq ≤ kj19) ∧ Aside0 (Kd.R (Kd.int .u16) 49 w' w.heap.size (fun _ => True) u6 x6_1) ∧ Aside0 (Kd.R (Kd.arr 64 (Kd.int .u16) (by decide)) 50 w' w.heap.size (fun k_ => some k_ ≠ ((.slice (some ⟨goa230, 0, none⟩) 64 64) : Value).ownBlock) u7 x7_1) ∧ Aside0 (Kd.R (Kd.int .u16) 50 w' w.heap.size (fun k_ => some k_ ≠ (u7 : Value).ownBlock) (.slice (some ⟨goa230, 0, none⟩) 64 64) x9_1) ∧ Aside0 (Below w.heap.size w w'))
            case atStart => exact ⟨(x8_5), (by first | rfl | (simp; done) | (simp [*]; done)), H', ⟨Nat.le_refl _⟩, ⟨by (with_reducible repeat (first | apply Kd.R_alloc | apply Kd.R_drewN | apply Kd.R_drew)); exact HO_6.out⟩, ⟨by (with_reducible repeat (first | apply Kd.R_alloc | apply Kd.R_drewN | apply Kd.R_drew)); first | exact HO_7.out | exact Kd.R_mono HO_7.out (fun _ hk => (by first | exact hk | exact fun e_ => hk (e_.trans (own_len _ _ _ _ _))))⟩, ⟨by (with_reducible repeat (first | apply Kd.R_alloc | apply Kd.R_drewN | apply Kd.R_drew)); first | exact HO_9.out | exact Kd.R_mono HO_9.out (fun _ hk => (by first | exact hk | exact fun e_ => hk (e_.trans (own_len _ _ _ _ _))))⟩, ⟨by repeat (first | (with_reducible first | exact HB.out | apply below_alloc | apply pw_below_drewN | apply below_drew1) | exact HB.out)⟩⟩
            case round =>
             clear H'
             (try clear c1); (try clear c2); (try clear p2); (try clear q2); (try clear hx2); (try clear c5); (try clear c5b0); (try clear p6); (try clear c7); (try clear c7b0); (try clear c8); (try clear c8b0); (try clear c9); (try clear c9b0); (try clear c12); (try clear c12b0); (try clear c12b1); (try clear c13); (try clear c13b0); (try clear c14); (try clear c14b0); (try clear c15); (try clear c16); (try clear c16b0); (try clear c17); (try clear c17b0); (try clear c18); (try clear c18b0); (try clear c19); (try clear c19b0); (try clear c21); (try clear c21b0); (try clear c22); (try clear p23); (try clear q23); (try clear hx23); (try clear c24); (try clear c24b0); (try clear c25); (try clear c25b0); (try clear c26); (try clear hx231_0); (try clear hx231_1); (try clear hx231_2); (try clear hx232_0); (try clear hx232_1); (try clear hx232_2); (try clear hx233_0); (try clear hx233_1); (try clear hx233_2); (try clear hx234_0); (try clear hx234_1); (try clear hx234_2); (try clear hx235_0); (try clear hx235_1); (try clear hx235_2); (try clear hx236_0); (try clear p2); (try clear p231); (try clear p232); (try clear p233); (try clear p234); (try clear p235); (try clear p236); (try clear p6); (try clear q2); (try clear q231); (try clear q232); (try clear q233); (try clear q234); (try clear q235); (try clear q236)
             obtain ⟨x13_5, rfl, HA, HK5, HO_6, HO_7, HO_9, HB⟩ := hrel
             cases gk with
             | zero => exact absurd HA.out (by simp [endonymref4_Blocks.l2])
             | succ k5 =>
              have H := HA.out
              clear HA
              simp only [endonymref4_Blocks.l2] at H
              by_cases c30 : x13_5 < (l0.length : Int)
              ·rw [if_pos c30] at H
               have c30b0 : decide (x13_5 < (l0.length : Int)) = true := decide_eq_true c30
               clear c30
               (first | rw [c30b0] | (simp only [i64_w, i32_w]; rw [c30b0]) | skip)
               by_cases c31 : 0 ≤ x13_5
               ·rw [if_pos c31] at H
                have c31b0 : decide (0 ≤ x13_5) = true := decide_eq_true c31
                clear c31
                by_cases c32 : ((rd_T35 l0 x13_5).f0) ≤ (wrap64 ((wrap64 (64 * x11_1)) + 63))
                ·rw [if_pos c32] at H
                 have c32b0 : decide (((rd_T35 l0 x13_5).f0) ≤ (wrap64 ((wrap64 (64 * x11_1)) + 63))) = true := decide_eq_true c32
                 clear c32
                 have H' := Aside0.mk H
                 clear H
                 have p240 : 0 ≤ (x13_5 : Int) := of_decide_eq_true (by first | (with_reducible assumption) | assumption)
                 have q240 : x13_5 < (l0.length : Int) := of_decide_eq_true (by first | (with_reducible assumption) | assumption)
                 obtain ⟨ad240, e240, hx240_0, hx240_1, hx240_2⟩ := at_T35 HR0.out x13_5 p240 q240
                 cases e240
                 replace hx240_0 := (HB.out.cell (World.block_lt_of_cell? w _ hx240_0)).trans hx240_0
                 replace hx240_1 := (HB.out.cell (World.block_lt_of_cell? w _ hx240_1)).trans hx240_1
                 replace hx240_2 := (HB.out.cell (World.block_lt_of_cell? w _ hx240_2)).trans hx240_2
                 replace p240 := eq_true p240; replace q240 := eq_true q240
                 go_wp2
                 repeat (go_quiet (fail); try go_wp2)
                 go_roundg k5
                 case measure => have := HK1.out; have := HJ5.out; have := HJ9.out; have := HJ19.out; have := HK5.out; omega
                 case rel => exact ⟨(wrap64 (x13_5 + 1)), (by first | rfl | (simp; done) | (simp [*]; done)), H', ⟨by have := HK1.out; have := HJ5.out; have := HJ9.out; have := HJ19.out; have := HK5.out; omega⟩, ⟨by (with_reducible repeat (first | apply Kd.R_alloc | apply Kd.R_drewN | apply Kd.R_drew)); exact HO_6.out⟩, ⟨by (with_reducible repeat (first | apply Kd.R_alloc | apply Kd.R_drewN | apply Kd.R_drew)); first | exact HO_7.out | exact Kd.R_mono HO_7.out (fun _ hk => (by first | exact hk | exact fun e_ => hk (e_.trans (own_len _ _ _ _ _))))⟩, ⟨by (with_reducible repeat (first | apply Kd.R_alloc | apply Kd.R_drewN | apply Kd.R_drew)); first | exact HO_9.out | exact Kd.R_mono HO_9.out (fun _ hk => (by first | exact hk | exact fun e_ => hk (e_.trans (own_len _ _ _ _ _))))⟩, ⟨by repeat (first | (with_reducible first | exact HB.out | apply below_alloc | apply pw_below_drewN | apply below_drew1) | exact HB.out)⟩⟩
                ·rw [if_neg c32] at H
                 have c32b0 : decide (((rd_T35 l0 x13_5).f0) ≤ (wrap64 ((wrap64 (64 * x11_1)) + 63))) = false := decide_eq_false c32
                 clear c32
                 have H' := Aside0.mk H
                 clear H
                 have p240 : 0 ≤ (x13_5 : Int) := of_decide_eq_true (by first | (with_reducible assumption) | assumption)
                 have q240 : x13_5 < (l0.length : Int) := of_decide_eq_true (by first | (with_reducible assumption) | assumption)
                 obtain ⟨ad240, e240, hx240_0, hx240_1, hx240_2⟩ := at_T35 HR0.out x13_5 p240 q240
                 cases e240
                 replace hx240_0 := (HB.out.cell (World.block_lt_of_cell? w _ hx240_0)).trans hx240_0
                 replace hx240_1 := (HB.out.cell (World.block_lt_of_cell? w _ hx240_1)).trans hx240_1
                 replace hx240_2 := (HB.out.cell (World.block_lt_of_cell? w _ hx240_2)).trans hx240_2
                 replace p240 := eq_true p240; replace q240 := eq_true q240
                 go_wp2
                 repeat (go_quiet (fail); try go_wp2)
                 go_meet
                 case rel => exact ⟨_, (x13_5), (by first | rfl | (simp; done) | (simp [*]; done)), H', ⟨by have := HK1.out; have := HJ5.out; have := HJ9.out; have := HJ19.out; have := HK5.out; first | omega | exact Nat.le_refl _⟩, ⟨by (with_reducible repeat (first | apply Kd.R_alloc | apply Kd.R_drewN | apply Kd.R_drew)); exact HO_6.out⟩, ⟨by (with_reducible repeat (first | apply Kd.R_alloc | apply Kd.R_drewN | apply Kd.R_drew)); first | exact HO_7.out | exact Kd.R_mono HO_7.out (fun _ hk => (by first | exact hk | exact fun e_ => hk (e_.trans (own_len _ _ _ _ _))))⟩, ⟨by (with_reducible repeat (first | apply Kd.R_alloc | apply Kd.R_drewN | apply Kd.R_drew)); first | exact HO_9.out | exact Kd.R_mono HO_9.out (fun _ hk => (by first | exact hk | exact fun e_ => hk (e_.trans (own_len _ _ _ _ _))))⟩, ⟨by repeat (first | (with_reducible first | exact HB.out | apply below_alloc | apply pw_below_drewN | apply below_drew1) | exact HB.out)⟩⟩
               ·rw [if_neg c31] at H
                exact absurd H (by simp)
              ·rw [if_neg c30] at H
               have c30b0 : decide (x13_5 < (l0.length : Int)) = false := decide_eq_false c30
               clear c30
               (first | rw [c30b0] | (simp only [i64_w, i32_w]; rw [c30b0]) | skip)
               have H' := Aside0.mk H
               clear H
               go_wp2
               repeat (go_quiet (fail); try go_wp2)
               go_meet
               case rel => exact ⟨_, (x13_5), (by first | rfl | (simp; done) | (simp [*]; done)), H', ⟨by have := HK1.out; have := HJ5.out; have := HJ9.out; have := HJ19.out; have := HK5.out; first | omega | exact Nat.le_refl _⟩, ⟨by (with_reducible repeat (first | apply Kd.R_alloc | apply Kd.R_drewN | apply Kd.R_drew)); exact HO_6.out⟩, ⟨by (with_reducible repeat (first | apply Kd.R_alloc | apply Kd.R_drewN | apply Kd.R_drew)); first | exact HO_7.out | exact Kd.R_mono HO_7.out (fun _ hk => (by first | exact hk | exact fun e_ => hk (e_.trans (own_len _ _ _ _ _))))⟩, ⟨by (with_reducible repeat (first | apply Kd.R_alloc | apply Kd.R_drewN | apply Kd.R_drew)); first | exact HO_9.out | exact Kd.R_mono HO_9.out (fun _ hk => (by first | exact hk | exact fun e_ => hk (e_.trans (own_len _ _ _ _ _))))⟩, ⟨by repeat (first | (with_reducible first | exact HB.out | apply below_alloc | apply pw_below_drewN | apply below_drew1) | exact HB.out)⟩⟩
           case rest =>
            clear HC29
            (try clear c1); (try clear c2); (try clear p2); (try clear q2); (try clear hx2); (try clear c3); (try clear c5); (try clear c5b0); (try clear p6); (try clear c7); (try clear c7b0); (try clear c8); (try clear c8b0); (try clear c9); (try clear c9b0); (try clear c12); (try clear c12b0); (try clear c12b1); (try clear c13); (try clear c13b0); (try clear c14); (try clear c14b0); (try clear c15); (try clear c16); (try clear c16b0); (try clear c17); (try clear c17b0); (try clear c18); (try clear c18b0); (try clear c19); (try clear c19b0); (try clear c21); (try clear c21b0); (try clear c22); (try clear p23); (try clear q23); (try clear hx23); (try clear c24); (try clear c24b0); (try clear p24); (try clear q24); (try clear hx24); (try clear c25); (try clear c25b0); (try clear c26); (try clear c30); (try clear c30b0); (try clear c31); (try clear c31b0); (try clear c32); (try clear c32b0); (try clear hx231_0); (try clear hx231_1); (try clear hx231_2); (try clear hx232_0); (try clear hx232_1); (try clear hx232_2); (try clear hx233_0); (try clear hx233_1); (try clear hx233_2); (try clear hx234_0); (try clear hx234_1); (try clear hx234_2); (try clear hx235_0); (try clear hx235_1); (try clear hx235_2); (try clear hx236_0); (try clear hx240_0); (try clear hx240_1); (try clear hx240_2); (try clear p2); (try clear p23); (try clear p231); (try clear p232); (try clear p233); (try clear p234); (try clear p235); (try clear p236); (try clear p240); (try clear p6); (try clear q2); (try clear q23); (try clear q231); (try clear q232); (try clear q233); (try clear q234); (try clear q235); (try clear q236); (try clear q240)
            obtain ⟨kq, x13_28, rfl, HA, HJ28, HO_6, HO_7, HO_9, HB⟩ := hcut
            cases kq with
            | zero => exact absurd HA.out (by simp [endonymref4_Blocks.j7])
            | succ kj28 =>
             have H := HA.out
             clear HA
             simp only [endonymref4_Blocks.j7] at H
             by_cases c33 : 0 ≤ x8_5
             ·rw [if_pos c33] at H
              have c33b0 := eq_true c33
              have c33b1 : decide (0 ≤ x8_5) = true := decide_eq_true c33
              clear c33
              by_cases c34 : x8_5 ≤ x13_28
              ·rw [if_pos c34] at H
               have c34b0 := eq_true c34
               have c34b1 : decide (x8_5 ≤ x13_28) = true := decide_eq_true c34
               clear c34
               by_cases c35 : x13_28 ≤ (l0.length : Int)
               ·rw [if_pos c35] at H
                have c35b0 := eq_true c35
                have c35b1 : decide (x13_28 ≤ (l0.length : Int)) = true := decide_eq_true c35
                clear c35
                obtain ⟨y241, hy241⟩ : ∃ y_ : List (S35), y_ = ((l0.take (x13_28 : Int).toNat).drop (x8_5 : Int).toNat) := ⟨_, rfl⟩
                replace H : ((endonymref4_Block.f kj28 y241 a1 x11_1).bind fun t245 => (endonymref4_Blocks.l3 kj28 l0 a1 x6_1 x7_1 x8_5 (arrPut 64 x9_1 t245) x12_9 x11_1 0)) = some (r1, r2) := by first | (rw [hy241]; with_reducible exact H) | (have H2_ := (Option.bind_some _ _).symm.trans H; rw [hy241]; with_reducible exact H2_) | (have H2_ := (Option.bind_some _ _).symm.trans H; with_reducible exact H2_) | with_reducible exact H | (rw [hy241]; exact H) | exact H
                have Ny241 := Aside0.mk hy241
                clear hy241
                replace H := Option.bind_eq_some_iff.mp H
                obtain ⟨t245, A360, H⟩ := H
                replace H : (endonymref4_Blocks.l3 kj28 l0 a1 x6_1 x7_1 x8_5 (arrPut 64 x9_1 t245) x12_9 x11_1 0) = some (r1, r2) := H
                have A36 := Aside0.mk A360
                clear A360
                obtain ⟨y246, hy246⟩ : ∃ y_ : List Int, y_ = (arrPut 64 x9_1 t245) := ⟨_, rfl⟩
                replace H : (endonymref4_Blocks.l3 kj28 l0 a1 x6_1 x7_1 x8_5 y246 x12_9 x11_1 0) = some (r1, r2) := by first | (rw [hy246]; with_reducible exact H) | (have H2_ := (Option.bind_some _ _).symm.trans H; rw [hy246]; with_reducible exact H2_) | (have H2_ := (Option.bind_some _ _).symm.trans H; with_reducible exact H2_) | with_reducible exact H | (rw [hy246]; exact H) | exact H
                have Ny246 := Aside0.mk hy246
                clear hy246
                have H' := Aside0.mk H
                clear H
                have q37 : (x13_28 : Int) ≤ ((l0.length : Int) : Int) := of_decide_eq_true (by first | (with_reducible assumption) | assumption)
                obtain ⟨i037, hi037, _, hsz37, _⟩ := info_parts info35
                have hroom37 : l0.length ≤ c0 := HC0.out
                have hC37 : Kd.C k35 _ A0 l0.length l0 := HR0.out
                have ql37 : (x8_5 : Int) ≤ (x13_28 : Int) := of_decide_eq_true (by first | (with_reducible assumption) | assumption)
                have q037 : (0 : Int) ≤ (x8_5 : Int) := of_decide_eq_true (by first | (with_reducible assumption) | assumption)
                have hcut37 := cut_mid (P := Try.prog) 22 35 .i64 .i64 Try.underlying22 hi037 3 hsz37 A0 l0.length c0 x8_5 x13_28 q037 ql37 q37 hroom37
                have hr37 := Kd.C_mid (lo := (x8_5 : Int).toNat) (hi := (x13_28 : Int).toNat) (c := c0) hC37 (by omega) (by omega) hroom37
                obtain ⟨A37, hA37⟩ : ∃ A1, A1 = (if c0 = (x8_5 : Int).toNat then A0 else (A0 : Option Addr).map (·.add ((x8_5 : Int).toNat * 3))) := ⟨_, rfl⟩
                obtain ⟨c37, hc37⟩ : ∃ c1, c1 = c0 - (x8_5 : Int).toNat := ⟨_, rfl⟩
                have hy37 : y241.length = (x13_28 : Int).toNat - (x8_5 : Int).toNat := (by rw [Ny241.out, List.length_drop, List.length_take] <;> omega)
                rw [show ((l0).take (x13_28 : Int).toNat).drop (x8_5 : Int).toNat = y241 from Ny241.out.symm] at hr37
                replace hr37 : Kd.C k35 _ A37 y241.length y241 := (by rw [hA37]; exact hr37)
                rw [← hy37, ← hA37, ← hc37] at hcut37
                have HR244 := Aside0.mk hr37
                have HC244 := Aside0.mk (show y241.length ≤ c37 from by rw [hy37, hc37]; exact Nat.sub_le_sub_right (Nat.le_trans (by omega) hroom37) _)
                clear hr37 hC37 hroom37 hi037 hsz37 hc37
                have KY37 := Aside0.mk hy37
                have KA37 := Aside0.mk hA37
                clear hy37 hA37; replace q37 := eq_true q37
                go_wp2_with (first | (go_at_call 25; (with_reducible refine (endonymref4_Block.calls kj28 _ _ y241 a1 x11_1 t245 _ ?side1 ?side2 A36.out).mono ?_); (case side1 => repeat (first | exact (Kd.C_below HR244.out HB.out) | (with_reducible refine Kd.C_alloc ?_ _) | (with_reducible refine Kd.C_drewN ?_ _) | (with_reducible refine Kd.C_drew ?_))); (case side2 => exact HC244.out); rintro e w38 ⟨rfl, hb⟩; have n0_ := Aside0.mk (Kd.R_below (by (with_reducible repeat (first | apply Kd.R_alloc | apply Kd.R_drewN | apply Kd.R_drew)); exact HO_6.out) hb); have n1_ := Aside0.mk (Kd.R_below (by (with_reducible repeat (first | apply Kd.R_alloc | apply Kd.R_drewN | apply Kd.R_drew)); first | exact HO_7.out | exact Kd.R_mono HO_7.out (fun _ hk => (by first | exact hk | exact fun e_ => hk (e_.trans (own_len _ _ _ _ _))))) hb); have n2_ := Aside0.mk (Kd.R_below (by (with_reducible repeat (first | apply Kd.R_alloc | apply Kd.R_drewN | apply Kd.R_drew)); first | exact HO_9.out | exact Kd.R_mono HO_9.out (fun _ hk => (by first | exact hk | exact fun e_ => hk (e_.trans (own_len _ _ _ _ _))))) hb); have n3_ := Aside0.mk (below_step (by repeat (first | (with_reducible first | exact HB.out | apply below_alloc | apply pw_below_drewN | apply below_drew1) | exact HB.out)) hb); clear HO_6; clear HO_7; clear HO_9; clear HB; have HO_6 := n0_; have HO_7 := n1_; have HO_9 := n2_; have HB := n3_; clear n0_ n1_ n2_ n3_; (try clear hb); (try clear hb2); (try clear hk); (try clear hi)) | ((with_reducible refine gate_store (t := 50) (p := 9) rfl ?_); (try (rw [drewN_self w38]; generalize hq_ : World.drewN w38 _ = w38; have n0_ := Aside0.mk (Kd.R_at hq_ HO_6.out); have n1_ := Aside0.mk (Kd.R_at hq_ HO_7.out); have n2_ := Aside0.mk (Kd.R_at hq_ HO_9.out); have n3_ := Aside0.mk (below_at hq_ HB.out); clear hq_ HO_6 HO_7 HO_9 HB; have HO_6 := n0_; have HO_7 := n1_; have HO_9 := n2_; have HB := n3_; clear n0_ n1_ n2_ n3_)); refine arrput_event (k := .u16) (n := 64) (ys := t245) rfl rfl rfl rfl rfl (by kernel_rfl) HO_9.out ?_; intro w40 hp0_ hg hbl_; have hp_ : Kd.R (Kd.int .u16) 50 w40 w.heap.size (fun k_ => some k_ ≠ (u7 : Value).ownBlock) (.slice (some ⟨goa230, 0, none⟩) 64 64) y246 := (by rw [Ny246.out]; exact hp0_); have n0_ := Aside0.mk (Kd.R_over' (v := (.slice (some ⟨goa230, 0, none⟩) 64 64)) (by (with_reducible repeat (first | apply Kd.R_alloc | apply Kd.R_drewN | apply Kd.R_drew)); exact HO_6.out) (Kd.R_typed HO_9.out) (by decide) hg); have n1_ := Aside0.mk (Kd.R_after (v := (.slice (some ⟨goa230, 0, none⟩) 64 64)) (v1 := (.slice (some ⟨goa230, 0, none⟩) 64 64)) (ok := (fun _ => True)) (by (with_reducible repeat (first | apply Kd.R_alloc | apply Kd.R_drewN | apply Kd.R_drew)); first | exact Kd.R_mono HO_7.out (fun _ hk => ⟨trivial, hk⟩) | exact Kd.R_mono HO_7.out (fun _ hk => ⟨trivial, (by first | exact hk | exact fun e_ => hk (e_.trans (own_len _ _ _ _ _)))⟩)) hg (.inl rfl)); have n2_ := Aside0.mk (hp_); have n3_ := Aside0.mk (hbl_ _ _ HB.out GBa230.out); clear HO_6; clear HO_7; clear HO_9; clear HB; have HO_6 := n0_; have HO_7 := n1_; have HO_9 := n2_; have HB := n3_; clear n0_ n1_ n2_ n3_; clear hg hp_ hp0_ hbl_))
                repeat (go_quiet (first | (go_at_call 25; (with_reducible refine (endonymref4_Block.calls kj28 _ _ y241 a1 x11_1 t245 _ ?side1 ?side2 A36.out).mono ?_); (case side1 => repeat (first | exact (Kd.C_below HR244.out HB.out) | (with_reducible refine Kd.C_alloc ?_ _) | (with_reducible refine Kd.C_drewN ?_ _) | (with_reducible refine Kd.C_drew ?_))); (case side2 => exact HC244.out); rintro e w38 ⟨rfl, hb⟩; have n0_ := Aside0.mk (Kd.R_below (by (with_reducible repeat (first | apply Kd.R_alloc | apply Kd.R_drewN | apply Kd.R_drew)); exact HO_6.out) hb); have n1_ := Aside0.mk (Kd.R_below (by (with_reducible repeat (first | apply Kd.R_alloc | apply Kd.R_drewN | apply Kd.R_drew)); first | exact HO_7.out | exact Kd.R_mono HO_7.out (fun _ hk => (by first | exact hk | exact fun e_ => hk (e_.trans (own_len _ _ _ _ _))))) hb); have n2_ := Aside0.mk (Kd.R_below (by (with_reducible repeat (first | apply Kd.R_alloc | apply Kd.R_drewN | apply Kd.R_drew)); first | exact HO_9.out | exact Kd.R_mono HO_9.out (fun _ hk => (by first | exact hk | exact fun e_ => hk (e_.trans (own_len _ _ _ _ _))))) hb); have n3_ := Aside0.mk (below_step (by repeat (first | (with_reducible first | exact HB.out | apply below_alloc | apply pw_below_drewN | apply below_drew1) | exact HB.out)) hb); clear HO_6; clear HO_7; clear HO_9; clear HB; have HO_6 := n0_; have HO_7 := n1_; have HO_9 := n2_; have HB := n3_; clear n0_ n1_ n2_ n3_; (try clear hb); (try clear hb2); (try clear hk); (try clear hi)) | ((with_reducible refine gate_store (t := 50) (p := 9) rfl ?_); (try (rw [drewN_self w38]; generalize hq_ : World.drewN w38 _ = w38; have n0_ := Aside0.mk (Kd.R_at hq_ HO_6.out); have n1_ := Aside0.mk (Kd.R_at hq_ HO_7.out); have n2_ := Aside0.mk (Kd.R_at hq_ HO_9.out); have n3_ := Aside0.mk (below_at hq_ HB.out); clear hq_ HO_6 HO_7 HO_9 HB; have HO_6 := n0_; have HO_7 := n1_; have HO_9 := n2_; have HB := n3_; clear n0_ n1_ n2_ n3_)); refine arrput_event (k := .u16) (n := 64) (ys := t245) rfl rfl rfl rfl rfl (by kernel_rfl) HO_9.out ?_; intro w40 hp0_ hg hbl_; have hp_ : Kd.R (Kd.int .u16) 50 w40 w.heap.size (fun k_ => some k_ ≠ (u7 : Value).ownBlock) (.slice (some ⟨goa230, 0, none⟩) 64 64) y246 := (by rw [Ny246.out]; exact hp0_); have n0_ := Aside0.mk (Kd.R_over' (v := (.slice (some ⟨goa230, 0, none⟩) 64 64)) (by (with_reducible repeat (first | apply Kd.R_alloc | apply Kd.R_drewN | apply Kd.R_drew)); exact HO_6.out) (Kd.R_typed HO_9.out) (by decide) hg); have n1_ := Aside0.mk (Kd.R_after (v := (.slice (some ⟨goa230, 0, none⟩) 64 64)) (v1 := (.slice (some ⟨goa230, 0, none⟩) 64 64)) (ok := (fun _ => True)) (by (with_reducible repeat (first | apply Kd.R_alloc | apply Kd.R_drewN | apply Kd.R_drew)); first | exact Kd.R_mono HO_7.out (fun _ hk => ⟨trivial, hk⟩) | exact Kd.R_mono HO_7.out (fun _ hk => ⟨trivial, (by first | exact hk | exact fun e_ => hk (e_.trans (own_len _ _ _ _ _)))⟩)) hg (.inl rfl)); have n2_ := Aside0.mk (hp_); have n3_ := Aside0.mk (hbl_ _ _ HB.out GBa230.out); clear HO_6; clear HO_7; clear HO_9; clear HB; have HO_6 := n0_; have HO_7 := n1_; have HO_9 := n2_; have HB := n3_; clear n0_ n1_ n2_ n3_; clear hg hp_ hp0_ hbl_)); try go_wp2_with (first | (go_at_call 25; (with_reducible refine (endonymref4_Block.calls kj28 _ _ y241 a1 x11_1 t245 _ ?side1 ?side2 A36.out).mono ?_); (case side1 => repeat (first | exact (Kd.C_below HR244.out HB.out) | (with_reducible refine Kd.C_alloc ?_ _) | (with_reducible refine Kd.C_drewN ?_ _) | (with_reducible refine Kd.C_drew ?_))); (case side2 => exact HC244.out); rintro e w38 ⟨rfl, hb⟩; have n0_ := Aside0.mk (Kd.R_below (by (with_reducible repeat (first | apply Kd.R_alloc | apply Kd.R_drewN | apply Kd.R_drew)); exact HO_6.out) hb); have n1_ := Aside0.mk (Kd.R_below (by (with_reducible repeat (first | apply Kd.R_alloc | apply Kd.R_drewN | apply Kd.R_drew)); first | exact HO_7.out | exact Kd.R_mono HO_7.out (fun _ hk => (by first | exact hk | exact fun e_ => hk (e_.trans (own_len _ _ _ _ _))))) hb); have n2_ := Aside0.mk (Kd.R_below (by (with_reducible repeat (first | apply Kd.R_alloc | apply Kd.R_drewN | apply Kd.R_drew)); first | exact HO_9.out | exact Kd.R_mono HO_9.out (fun _ hk => (by first | exact hk | exact fun e_ => hk (e_.trans (own_len _ _ _ _ _))))) hb); have n3_ := Aside0.mk (below_step (by repeat (first | (with_reducible first | exact HB.out | apply below_alloc | apply pw_below_drewN | apply below_drew1) | exact HB.out)) hb); clear HO_6; clear HO_7; clear HO_9; clear HB; have HO_6 := n0_; have HO_7 := n1_; have HO_9 := n2_; have HB := n3_; clear n0_ n1_ n2_ n3_; (try clear hb); (try clear hb2); (try clear hk); (try clear hi)) | ((with_reducible refine gate_store (t := 50) (p := 9) rfl ?_); (try (rw [drewN_self w38]; generalize hq_ : World.drewN w38 _ = w38; have n0_ := Aside0.mk (Kd.R_at hq_ HO_6.out); have n1_ := Aside0.mk (Kd.R_at hq_ HO_7.out); have n2_ := Aside0.mk (Kd.R_at hq_ HO_9.out); have n3_ := Aside0.mk (below_at hq_ HB.out); clear hq_ HO_6 HO_7 HO_9 HB; have HO_6 := n0_; have HO_7 := n1_; have HO_9 := n2_; have HB := n3_; clear n0_ n1_ n2_ n3_)); refine arrput_event (k := .u16) (n := 64) (ys := t245) rfl rfl rfl rfl rfl (by kernel_rfl) HO_9.out ?_; intro w40 hp0_ hg hbl_; have hp_ : Kd.R (Kd.int .u16) 50 w40 w.heap.size (fun k_ => some k_ ≠ (u7 : Value).ownBlock) (.slice (some ⟨goa230, 0, none⟩) 64 64) y246 := (by rw [Ny246.out]; exact hp0_); have n0_ := Aside0.mk (Kd.R_over' (v := (.slice (some ⟨goa230, 0, none⟩) 64 64)) (by (with_reducible repeat (first | apply Kd.R_alloc | apply Kd.R_drewN | apply Kd.R_drew)); exact HO_6.out) (Kd.R_typed HO_9.out) (by decide) hg); have n1_ := Aside0.mk (Kd.R_after (v := (.slice (some ⟨goa230, 0, none⟩) 64 64)) (v1 := (.slice (some ⟨goa230, 0, none⟩) 64 64)) (ok := (fun _ => True)) (by (with_reducible repeat (first | apply Kd.R_alloc | apply Kd.R_drewN | apply Kd.R_drew)); first | exact Kd.R_mono HO_7.out (fun _ hk => ⟨trivial, hk⟩) | exact Kd.R_mono HO_7.out (fun _ hk => ⟨trivial, (by first | exact hk | exact fun e_ => hk (e_.trans (own_len _ _ _ _ _)))⟩)) hg (.inl rfl)); have n2_ := Aside0.mk (hp_); have n3_ := Aside0.mk (hbl_ _ _ HB.out GBa230.out); clear HO_6; clear HO_7; clear HO_9; clear HB; have HO_6 := n0_; have HO_7 := n1_; have HO_9 := n2_; have HB := n3_; clear n0_ n1_ n2_ n3_; clear hg hp_ hp0_ hbl_)))
                go_loopg [14] kj28 (fun kq v14 w' => ∃ (x14_6 : Int), v14 = .int .i64 x14_6 ∧ Aside0 (endonymref4_Blocks.l3 kq l0 a1 x6_1 x7_1 x8_5 y246 x12_9 x11_1 x14_6 = some (r1, r2)) ∧ Aside0 (kq ≤ kj28) ∧ Aside0 (Kd.R (Kd.int .u16) 49 w' w.heap.size (fun _ => True) u6 x6_1) ∧ Aside0 (Kd.R (Kd.arr 64 (Kd.int .u16) (by decide)) 50 w' w.heap.size (fun k_ => some k_ ≠ ((.slice (some ⟨goa230, 0, none⟩) 64 64) : Value).ownBlock) u7 x7_1) ∧ Aside0 (Kd.R (Kd.int .u16) 50 w' w.heap.size (fun k_ => some k_ ≠ (u7 : Value).ownBlock) (.slice (some ⟨goa230, 0, none⟩) 64 64) y246) ∧ Aside0 (Below w.heap.size w w'))
                case atStart => exact ⟨(0), (by first | rfl | (simp; done) | (simp [*]; done)), H', ⟨Nat.le_refl _⟩, ⟨by (with_reducible repeat (first | apply Kd.R_alloc | apply Kd.R_drewN | apply Kd.R_drew)); exact HO_6.out⟩, ⟨by (with_reducible repeat (first | apply Kd.R_alloc | apply Kd.R_drewN | apply Kd.R_drew)); first | exact Kd.R_mono HO_7.out (fun _ hk => hk.2) | exact Kd.R_mono HO_7.out (fun _ hk => (by first | exact hk.2 | exact fun e_ => hk.2 (e_.trans (own_len _ _ _ _ _))))⟩, ⟨by (with_reducible repeat (first | apply Kd.R_alloc | apply Kd.R_drewN | apply Kd.R_drew)); first | exact HO_9.out | exact Kd.R_mono HO_9.out (fun _ hk => (by first | exact hk | exact fun e_ => hk (e_.trans (own_len _ _ _ _ _))))⟩, ⟨by repeat (first | (with_reducible first | exact HB.out | apply below_alloc | apply pw_below_drewN | apply below_drew1) | exact HB.out)⟩⟩
                case round =>
                 clear H'
                 (try clear c1); (try clear c2); (try clear p2); (try clear q2); (try clear hx2); (try clear c3); (try clear q3); (try clear c5); (try clear c5b0); (try clear p6); (try clear c7); (try clear c7b0); (try clear c8); (try clear c8b0); (try clear c9); (try clear c9b0); (try clear c12); (try clear c12b0); (try clear c12b1); (try clear c13); (try clear c13b0); (try clear c14); (try clear c14b0); (try clear c15); (try clear c16); (try clear c16b0); (try clear c17); (try clear c17b0); (try clear c18); (try clear c18b0); (try clear c19); (try clear c19b0); (try clear c21); (try clear c21b0); (try clear c22); (try clear p23); (try clear q23); (try clear hx23); (try clear c24); (try clear c24b0); (try clear p24); (try clear q24); (try clear hx24); (try clear c25); (try clear c25b0); (try clear c26); (try clear c30); (try clear c30b0); (try clear c31); (try clear c31b0); (try clear c32); (try clear c32b0); (try clear c33); (try clear c33b0); (try clear c33b1); (try clear c34); (try clear c34b0); (try clear c34b1); (try clear c35); (try clear c35b0); (try clear c35b1); (try clear c37); (try clear q37); (try clear hx231_0); (try clear hx231_1); (try clear hx231_2); (try clear hx232_0); (try clear hx232_1); (try clear hx232_2); (try clear hx233_0); (try clear hx233_1); (try clear hx233_2); (try clear hx234_0); (try clear hx234_1); (try clear hx234_2); (try clear hx235_0); (try clear hx235_1); (try clear hx235_2); (try clear hx236_0); (try clear hx240_0); (try clear hx240_1); (try clear hx240_2); (try clear p2); (try clear p23); (try clear p231); (try clear p232); (try clear p233); (try clear p234); (try clear p235); (try clear p236); (try clear p24); (try clear p240); (try clear p6); (try clear q037); (try clear q2); (try clear q23); (try clear q231); (try clear q232); (try clear q233); (try clear q234); (try clear q235); (try clear q236); (try clear q24); (try clear q240); (try clear q37)
                 obtain ⟨x14_6, rfl, HA, HK6, HO_6, HO_7, HO_9, HB⟩ := hrel
                 cases gk with
                 | zero => exact absurd HA.out (by simp [endonymref4_Blocks.l3])
                 | succ k6 =>
                  have H := HA.out
                  clear HA
                  simp only [endonymref4_Blocks.l3] at H
                  by_cases c41 : x14_6 < (x7_1.length : Int)
                  ·rw [if_pos c41] at H
                   have c41b0 : decide (x14_6 < (x7_1.length : Int)) = true := decide_eq_true c41
                   clear c41
                   by_cases c42 : 0 ≤ x14_6
                   ·rw [if_pos c42] at H
                    have c42b0 : decide (0 ≤ x14_6) = true := decide_eq_true c42
                    clear c42
                    by_cases c43 : ((arrEq 64 (rd_L4 x7_1 x14_6) y246) = true)
                    ·rw [if_pos c43] at H
                     have c43b0 : (arrEq 64 (rd_L4 x7_1 x14_6) y246) = true := c43
                     clear c43
                     by_cases c44 : x14_6 = (x7_1.length : Int)
                     ·rw [if_pos c44] at H
                      have c44b0 : (x14_6 == (x7_1.length : Int)) = true := beq_iff_eq.mpr c44
                      have c44b1 : (x14_6 != (x7_1.length : Int)) = false := bne_eq_false_iff_eq.mpr c44
                      clear c44
                      by_cases c45 : x7_1.length < 1099511627776
                      ·rw [if_pos c45] at H
                       have LMc45 := Aside0.mk c45
                       clear c45
                       obtain ⟨y248, hy248⟩ : ∃ y_ : List (List Int), y_ = (x7_1 ++ [y246]) := ⟨_, rfl⟩
                       replace H : (if x6_1.length < 70368744177664 then (endonymref4_Blocks.l0 k6 l0 a1 (x6_1 ++ [IntKind.u16.wrap (x14_6)]) y248 x8_5 y246 x12_9 (wrap64 (x11_1 + 1))) else (none)) = some (r1, r2) := by first | (rw [hy248]; with_reducible exact H) | (have H2_ := (Option.bind_some _ _).symm.trans H; rw [hy248]; with_reducible exact H2_) | (have H2_ := (Option.bind_some _ _).symm.trans H; with_reducible exact H2_) | with_reducible exact H | (rw [hy248]; exact H) | exact H
                       have Ny248 := Aside0.mk hy248
                       clear hy248
                       by_cases c46 : x6_1.length < 70368744177664
                       ·rw [if_pos c46] at H
                        have LMc46 := Aside0.mk c46
                        clear c46
                        obtain ⟨y251, hy251⟩ : ∃ y_ : List Int, y_ = (x6_1 ++ [IntKind.u16.wrap (x14_6)]) := ⟨_, rfl⟩
                        replace H : (endonymref4_Blocks.l0 k6 l0 a1 y251 y248 x8_5 y246 x12_9 (wrap64 (x11_1 + 1))) = some (r1, r2) := by first | (rw [hy251]; with_reducible exact H) | (have H2_ := (Option.bind_some _ _).symm.trans H; rw [hy251]; with_reducible exact H2_) | (have H2_ := (Option.bind_some _ _).symm.trans H; with_reducible exact H2_) | with_reducible exact H | (rw [hy251]; exact H) | exact H
                        have Ny251 := Aside0.mk hy251
                        clear hy251
                        have H' := Aside0.mk H
                        clear H
                        obtain ⟨Ao47, co47, eo47⟩ := Kd.R_slice HO_7.out
                        subst eo47
                        have p247 : 0 ≤ (x14_6 : Int) := of_decide_eq_true (by first | (with_reducible assumption) | assumption)
                        have q247 : x14_6 < (x7_1.length : Int) := of_decide_eq_true (by first | (with_reducible assumption) | assumption)
                        obtain ⟨ad247, e247, hx247_0⟩ := at_L4 (Kd.R_reads' HO_7.out).2.2 x14_6 p247 q247
                        cases e247; replace p247 := eq_true p247; replace q247 := eq_true q247
                        have hap48 := R_arr_at (k := .u16) (HO_9.out)
                        have hap49 := R_arr_at (k := .u16) (HO_9.out)
                        go_wp2_with (first | ((refine wpList_load_arr rfl _ rfl rfl hx247_0 Try.underlying50 (by kernel_rfl) ?_); (try simp only [Act.put, List.setIfInBounds_toArray, List.set_cons_zero, List.set_cons_succ])) | ((refine wpList_load_arr rfl _ rfl rfl hap48 Try.underlying50 (by kernel_rfl) ?_); (try simp only [Act.put, List.setIfInBounds_toArray, List.set_cons_zero, List.set_cons_succ])) | ((refine wpList_load_arr rfl _ rfl rfl hap49 Try.underlying50 (by kernel_rfl) ?_); (try simp only [Act.put, List.setIfInBounds_toArray, List.set_cons_zero, List.set_cons_succ])) | ((with_reducible refine gate_dst (N := 138) rfl ?_); refine wpList_lit_arr (z := .agg (arrV .u16 64 [])) (bytes := 128) rfl rfl rfl Try.underlying44 (by kernel_rfl) (by decide) (by decide) ?_; (try simp only [Act.put, List.setIfInBounds_toArray, List.set_cons_zero, List.set_cons_succ])) | ((with_reducible refine gate_builtin (b := .append) (xs := #[.tmp 136, .tmp 138]) rfl ?_); at_builtin; refine Kd.R_append (Kd.arr 64 (Kd.int .u16) (by decide)) (w0 := w) w.heap.size rfl (.tmp 136) (.tmp 138) 44 50 (.agg #[(.int .u16 0), (.int .u16 0), (.int .u16 0), (.int .u16 0), (.int .u16 0), (.int .u16 0), (.int .u16 0), (.int .u16 0), (.int .u16 0), (.int .u16 0), (.int .u16 0), (.int .u16 0), (.int .u16 0), (.int .u16 0), (.int .u16 0), (.int .u16 0), (.int .u16 0), (.int .u16 0), (.int .u16 0), (.int .u16 0), (.int .u16 0), (.int .u16 0), (.int .u16 0), (.int .u16 0), (.int .u16 0), (.int .u16 0), (.int .u16 0), (.int .u16 0), (.int .u16 0), (.int .u16 0), (.int .u16 0), (.int .u16 0), (.int .u16 0), (.int .u16 0), (.int .u16 0), (.int .u16 0), (.int .u16 0), (.int .u16 0), (.int .u16 0), (.int .u16 0), (.int .u16 0), (.int .u16 0), (.int .u16 0), (.int .u16 0), (.int .u16 0), (.int .u16 0), (.int .u16 0), (.int .u16 0), (.int .u16 0), (.int .u16 0), (.int .u16 0), (.int .u16 0), (.int .u16 0), (.int .u16 0), (.int .u16 0), (.int .u16 0), (.int .u16 0), (.int .u16 0), (.int .u16 0), (.int .u16 0), (.int .u16 0), (.int .u16 0), (.int .u16 0), (.int .u16 0)]) 128 rfl Try.underlying44 (by kernel_rfl) rfl (by decide) (by omega) (.slice (some ad247) x7_1.length co47) x7_1 y246 (arrL .u16 64 y246) (fun k_ => some k_ ≠ (.slice (some ⟨goa230, 0, none⟩) 64 64 : Value).ownBlock) (fun _ => False) rfl rfl ?aP (fun _ hk => hk.elim) ?aF ?aO ?aB ?aS ?aL ?_; (case aP => exact arr_M (R_arr_heap HO_9.out).2.1); (case aB => exact (by repeat (first | (with_reducible first | exact HB.out | apply below_alloc | apply pw_below_drewN | apply below_drew1) | exact HB.out))); (case aF => exact (fun k_ hk => Kd.fresh' (Kd.R_lt (by (with_reducible repeat (first | apply Kd.R_alloc | apply Kd.R_drewN | apply Kd.R_drew)); first | exact HO_9.out | exact Kd.R_mono HO_9.out (fun _ hk => (by first | exact hk | exact fun e_ => hk (e_.trans (own_len _ _ _ _ _)))))) k_ hk)); (case aO => exact (by (with_reducible repeat (first | apply Kd.R_alloc | apply Kd.R_drewN | apply Kd.R_drew)); first | exact HO_7.out | exact Kd.R_mono HO_7.out (fun _ hk => (by first | exact hk | exact fun e_ => hk (e_.trans (own_len _ _ _ _ _)))))); (case aS => exact (below_size (by repeat (first | (with_reducible first | exact HB.out | apply below_alloc | apply pw_below_drewN | apply below_drew1) | exact HB.out)))); (case aL => have := LMc45.out; omega); intro v249 w50 ho hb hg hat; rw [← Ny248.out] at ho; have n0_ := Aside0.mk (Kd.R_over' (by (with_reducible repeat (first | apply Kd.R_alloc | apply Kd.R_drewN | apply Kd.R_drew)); exact HO_6.out) (Kd.R_typed (by (with_reducible repeat (first | apply Kd.R_alloc | apply Kd.R_drewN | apply Kd.R_drew)); first | exact HO_7.out | exact Kd.R_mono HO_7.out (fun _ hk => (by first | exact hk | exact fun e_ => hk (e_.trans (own_len _ _ _ _ _)))))) (by decide) hg); have n1_ := Aside0.mk (Kd.R_after (ok := (fun _ => True)) (by (with_reducible repeat (first | apply Kd.R_alloc | apply Kd.R_drewN | apply Kd.R_drew)); first | exact Kd.R_mono HO_9.out (fun _ hk => ⟨trivial, hk⟩) | exact Kd.R_mono HO_9.out (fun _ hk => ⟨trivial, (by first | exact hk | exact fun e_ => hk (e_.trans (own_len _ _ _ _ _)))⟩)) hg hat); have n2_ := Aside0.mk (hb); have n3_ := Aside0.mk (ho); clear HO_6; clear HO_9; clear HB; clear HO_7; have HO_6 := n0_; have HO_9 := n1_; have HB := n2_; have HO250 := n3_; clear n0_ n1_ n2_ n3_; clear ho hb hg hat) | ((with_reducible refine gate_builtin (b := .append) (xs := #[.tmp 140, .tmp 143]) rfl ?_); at_builtin; refine Kd.R_append (Kd.int .u16) (w0 := w) w.heap.size rfl (.tmp 140) (.tmp 143) 43 49 (.int .u16 0) 2 rfl Try.underlying43 info49 rfl (by decide) (by omega) u6 x6_1 (IntKind.u16.wrap (x14_6)) [.int .u16 (IntKind.u16.wrap (x14_6))] (fun _ => True) (fun _ => False) rfl rfl ?aP (fun _ hk => hk.elim) ?aF ?aO ?aB ?aS ?aL ?_; (case aP => exact rfl); (case aB => exact (by repeat (first | (with_reducible first | exact HB.out | apply below_alloc | apply pw_below_drewN | apply below_drew1) | exact HB.out))); (case aF => exact (fun _ _ => trivial)); (case aO => exact (by (with_reducible repeat (first | apply Kd.R_alloc | apply Kd.R_drewN | apply Kd.R_drew)); exact HO_6.out)); (case aS => exact (below_size (by repeat (first | (with_reducible first | exact HB.out | apply below_alloc | apply pw_below_drewN | apply below_drew1) | exact HB.out)))); (case aL => have := LMc46.out; omega); intro v252 w51 ho hb hg hat; rw [← Ny251.out] at ho; have n0_ := Aside0.mk (Kd.R_over' (by (with_reducible repeat (first | apply Kd.R_alloc | apply Kd.R_drewN | apply Kd.R_drew)); first | exact HO_9.out | exact Kd.R_mono HO_9.out (fun _ hk => ⟨trivial, (by first | exact hk.2 | exact fun e_ => hk.2 (e_.trans (own_len _ _ _ _ _)))⟩)) (Kd.R_typed (by (with_reducible repeat (first | apply Kd.R_alloc | apply Kd.R_drewN | apply Kd.R_drew)); exact HO_6.out)) (by decide) hg); have n1_ := Aside0.mk (Kd.R_over' (by (with_reducible repeat (first | apply Kd.R_alloc | apply Kd.R_drewN | apply Kd.R_drew)); first | exact HO250.out | exact Kd.R_mono HO250.out (fun _ hk => (by first | exact hk | exact fun e_ => hk (e_.trans (own_len _ _ _ _ _))))) (Kd.R_typed (by (with_reducible repeat (first | apply Kd.R_alloc | apply Kd.R_drewN | apply Kd.R_drew)); exact HO_6.out)) (by decide) hg); have n2_ := Aside0.mk (hb); have n3_ := Aside0.mk (ho); clear HO_9; clear HO250; clear HB; clear HO_6; have HO_9 := n0_; have HO250 := n1_; have HB := n2_; have HO253 := n3_; clear n0_ n1_ n2_ n3_; clear ho hb hg hat))
                        repeat ((refine wp_region_quiet_lit (by kernel_rfl) (by kernel_rfl) ?_; (repeat (first | go_big_quiet_skip | (go_big_quiet_want; (first | refine oquiet_load_arr _ rfl rfl hx247_0 Try.underlying50 (by kernel_rfl) ?_ | refine oquiet_load_arr _ rfl rfl hap48 Try.underlying50 (by kernel_rfl) ?_ | refine oquiet_load_arr _ rfl rfl hap49 Try.underlying50 (by kernel_rfl) ?_); go_big_quiet_on; simp only [Act.put, List.setIfInBounds_toArray, List.set_cons_zero, List.set_cons_succ]) | go_big_quiet_step (fail) | quiet_step (fail))); refine wpQuiet_nil ?_; intro _ hwq_; obtain ⟨nq, hwr_⟩ := hwq_; subst hwr_); try go_wp2_with (first | ((refine wpList_load_arr rfl _ rfl rfl hx247_0 Try.underlying50 (by kernel_rfl) ?_); (try simp only [Act.put, List.setIfInBounds_toArray, List.set_cons_zero, List.set_cons_succ])) | ((refine wpList_load_arr rfl _ rfl rfl hap48 Try.underlying50 (by kernel_rfl) ?_); (try simp only [Act.put, List.setIfInBounds_toArray, List.set_cons_zero, List.set_cons_succ])) | ((refine wpList_load_arr rfl _ rfl rfl hap49 Try.underlying50 (by kernel_rfl) ?_); (try simp only [Act.put, List.setIfInBounds_toArray, List.set_cons_zero, List.set_cons_succ])) | ((with_reducible refine gate_dst (N := 138) rfl ?_); refine wpList_lit_arr (z := .agg (arrV .u16 64 [])) (bytes := 128) rfl rfl rfl Try.underlying44 (by kernel_rfl) (by decide) (by decide) ?_; (try simp only [Act.put, List.setIfInBounds_toArray, List.set_cons_zero, List.set_cons_succ])) | ((with_reducible refine gate_builtin (b := .append) (xs := #[.tmp 136, .tmp 138]) rfl ?_); at_builtin; refine Kd.R_append (Kd.arr 64 (Kd.int .u16) (by decide)) (w0 := w) w.heap.size rfl (.tmp 136) (.tmp 138) 44 50 (.agg #[(.int .u16 0), (.int .u16 0), (.int .u16 0), (.int .u16 0), (.int .u16 0), (.int .u16 0), (.int .u16 0), (.int .u16 0), (.int .u16 0), (.int .u16 0), (.int .u16 0), (.int .u16 0), (.int .u16 0), (.int .u16 0), (.int .u16 0), (.int .u16 0), (.int .u16 0), (.int .u16 0), (.int .u16 0), (.int .u16 0), (.int .u16 0), (.int .u16 0), (.int .u16 0), (.int .u16 0), (.int .u16 0), (.int .u16 0), (.int .u16 0), (.int .u16 0), (.int .u16 0), (.int .u16 0), (.int .u16 0), (.int .u16 0), (.int .u16 0), (.int .u16 0), (.int .u16 0), (.int .u16 0), (.int .u16 0), (.int .u16 0), (.int .u16 0), (.int .u16 0), (.int .u16 0), (.int .u16 0), (.int .u16 0), (.int .u16 0), (.int .u16 0), (.int .u16 0), (.int .u16 0), (.int .u16 0), (.int .u16 0), (.int .u16 0), (.int .u16 0), (.int .u16 0), (.int .u16 0), (.int .u16 0), (.int .u16 0), (.int .u16 0), (.int .u16 0), (.int .u16 0), (.int .u16 0), (.int .u16 0), (.int .u16 0), (.int .u16 0), (.int .u16 0), (.int .u16 0)]) 128 rfl Try.underlying44 (by kernel_rfl) rfl (by decide) (by omega) (.slice (some ad247) x7_1.length co47) x7_1 y246 (arrL .u16 64 y246) (fun k_ => some k_ ≠ (.slice (some ⟨goa230, 0, none⟩) 64 64 : Value).ownBlock) (fun _ => False) rfl rfl ?aP (fun _ hk => hk.elim) ?aF ?aO ?aB ?aS ?aL ?_; (case aP => exact arr_M (R_arr_heap HO_9.out).2.1); (case aB => exact (by repeat (first | (with_reducible first | exact HB.out | apply below_alloc | apply pw_below_drewN | apply below_drew1) | exact HB.out))); (case aF => exact (fun k_ hk => Kd.fresh' (Kd.R_lt (by (with_reducible repeat (first | apply Kd.R_alloc | apply Kd.R_drewN | apply Kd.R_drew)); first | exact HO_9.out | exact Kd.R_mono HO_9.out (fun _ hk => (by first | exact hk | exact fun e_ => hk (e_.trans (own_len _ _ _ _ _)))))) k_ hk)); (case aO => exact (by (with_reducible repeat (first | apply Kd.R_alloc | apply Kd.R_drewN | apply Kd.R_drew)); first | exact HO_7.out | exact Kd.R_mono HO_7.out (fun _ hk => (by first | exact hk | exact fun e_ => hk (e_.trans (own_len _ _ _ _ _)))))); (case aS => exact (below_size (by repeat (first | (with_reducible first | exact HB.out | apply below_alloc | apply pw_below_drewN | apply below_drew1) | exact HB.out)))); (case aL => have := LMc45.out; omega); intro v249 w50 ho hb hg hat; rw [← Ny248.out] at ho; have n0_ := Aside0.mk (Kd.R_over' (by (with_reducible repeat (first | apply Kd.R_alloc | apply Kd.R_drewN | apply Kd.R_drew)); exact HO_6.out) (Kd.R_typed (by (with_reducible repeat (first | apply Kd.R_alloc | apply Kd.R_drewN | apply Kd.R_drew)); first | exact HO_7.out | exact Kd.R_mono HO_7.out (fun _ hk => (by first | exact hk | exact fun e_ => hk (e_.trans (own_len _ _ _ _ _)))))) (by decide) hg); have n1_ := Aside0.mk (Kd.R_after (ok := (fun _ => True)) (by (with_reducible repeat (first | apply Kd.R_alloc | apply Kd.R_drewN | apply Kd.R_drew)); first | exact Kd.R_mono HO_9.out (fun _ hk => ⟨trivial, hk⟩) | exact Kd.R_mono HO_9.out (fun _ hk => ⟨trivial, (by first | exact hk | exact fun e_ => hk (e_.trans (own_len _ _ _ _ _)))⟩)) hg hat); have n2_ := Aside0.mk (hb); have n3_ := Aside0.mk (ho); clear HO_6; clear HO_9; clear HB; clear HO_7; have HO_6 := n0_; have HO_9 := n1_; have HB := n2_; have HO250 := n3_; clear n0_ n1_ n2_ n3_; clear ho hb hg hat) | ((with_reducible refine gate_builtin (b := .append) (xs := #[.tmp 140, .tmp 143]) rfl ?_); at_builtin; refine Kd.R_append (Kd.int .u16) (w0 := w) w.heap.size rfl (.tmp 140) (.tmp 143) 43 49 (.int .u16 0) 2 rfl Try.underlying43 info49 rfl (by decide) (by omega) u6 x6_1 (IntKind.u16.wrap (x14_6)) [.int .u16 (IntKind.u16.wrap (x14_6))] (fun _ => True) (fun _ => False) rfl rfl ?aP (fun _ hk => hk.elim) ?aF ?aO ?aB ?aS ?aL ?_; (case aP => exact rfl); (case aB => exact (by repeat (first | (with_reducible first | exact HB.out | apply below_alloc | apply pw_below_drewN | apply below_drew1) | exact HB.out))); (case aF => exact (fun _ _ => trivial)); (case aO => exact (by (with_reducible repeat (first | apply Kd.R_alloc | apply Kd.R_drewN | apply Kd.R_drew)); exact HO_6.out)); (case aS => exact (below_size (by repeat (first | (with_reducible first | exact HB.out | apply below_alloc | apply pw_below_drewN | apply below_drew1) | exact HB.out)))); (case aL => have := LMc46.out; omega); intro v252 w51 ho hb hg hat; rw [← Ny251.out] at ho; have n0_ := Aside0.mk (Kd.R_over' (by (with_reducible repeat (first | apply Kd.R_alloc | apply Kd.R_drewN | apply Kd.R_drew)); first | exact HO_9.out | exact Kd.R_mono HO_9.out (fun _ hk => ⟨trivial, (by first | exact hk.2 | exact fun e_ => hk.2 (e_.trans (own_len _ _ _ _ _)))⟩)) (Kd.R_typed (by (with_reducible repeat (first | apply Kd.R_alloc | apply Kd.R_drewN | apply Kd.R_drew)); exact HO_6.out)) (by decide) hg); have n1_ := Aside0.mk (Kd.R_over' (by (with_reducible repeat (first | apply Kd.R_alloc | apply Kd.R_drewN | apply Kd.R_drew)); first | exact HO250.out | exact Kd.R_mono HO250.out (fun _ hk => (by first | exact hk | exact fun e_ => hk (e_.trans (own_len _ _ _ _ _))))) (Kd.R_typed (by (with_reducible repeat (first | apply Kd.R_alloc | apply Kd.R_drewN | apply Kd.R_drew)); exact HO_6.out)) (by decide) hg); have n2_ := Aside0.mk (hb); have n3_ := Aside0.mk (ho); clear HO_9; clear HO250; clear HB; clear HO_6; have HO_9 := n0_; have HO250 := n1_; have HB := n2_; have HO253 := n3_; clear n0_ n1_ n2_ n3_; clear ho hb hg hat)))
                        go_roundg k6
                        case measure => have := HK1.out; have := HJ5.out; have := HJ9.out; have := HJ19.out; have := HJ28.out; have := HK6.out; omega
                        case rel => exact ⟨(y251), (y248), (x8_5), (y246), (x12_9), (wrap64 (x11_1 + 1)), (by first | rfl | (simp; done) | (simp [*]; done)), (by first | rfl | (simp; done) | (simp [*]; done)), (by first | rfl | (simp; done) | (simp [*]; done)), H', ⟨by have := HK1.out; have := HJ5.out; have := HJ9.out; have := HJ19.out; have := HJ28.out; have := HK6.out; omega⟩, ⟨by (with_reducible repeat (first | apply Kd.R_alloc | apply Kd.R_drewN | apply Kd.R_drew)); exact HO253.out⟩, ⟨by (with_reducible repeat (first | apply Kd.R_alloc | apply Kd.R_drewN | apply Kd.R_drew)); first | exact HO250.out | exact Kd.R_mono HO250.out (fun _ hk => (by first | exact hk | exact fun e_ => hk (e_.trans (own_len _ _ _ _ _))))⟩, ⟨by (with_reducible repeat (first | apply Kd.R_alloc | apply Kd.R_drewN | apply Kd.R_drew)); first | exact Kd.R_mono HO_9.out (fun _ hk => hk.2) | exact Kd.R_mono HO_9.out (fun _ hk => (by first | exact hk.2 | exact fun e_ => hk.2 (e_.trans (own_len _ _ _ _ _))))⟩, ⟨by repeat (first | (with_reducible first | exact HB.out | apply below_alloc | apply pw_below_drewN | apply below_drew1) | exact HB.out)⟩⟩
                       ·rw [if_neg c46] at H
                        exact absurd H (by simp)
                      ·rw [if_neg c45] at H
                       exact absurd H (by simp)
                     ·rw [if_neg c44] at H
                      have c44b0 : (x14_6 == (x7_1.length : Int)) = false := beq_eq_false_iff_ne.mpr c44
                      have c44b1 : (x14_6 != (x7_1.length : Int)) = true := bne_iff_ne.mpr c44
                      by_cases c52 : x6_1.length < 70368744177664
                      ·rw [if_pos c52] at H
                       have LMc52 := Aside0.mk c52
                       clear c52
                       obtain ⟨y254, hy254⟩ : ∃ y_ : List Int, y_ = (x6_1 ++ [IntKind.u16.wrap (x14_6)]) := ⟨_, rfl⟩
                       replace H : (endonymref4_Blocks.l0 k6 l0 a1 y254 x7_1 x8_5 y246 x12_9 (wrap64 (x11_1 + 1))) = some (r1, r2) := by first | (rw [hy254]; with_reducible exact H) | (have H2_ := (Option.bind_some _ _).symm.trans H; rw [hy254]; with_reducible exact H2_) | (have H2_ := (Option.bind_some _ _).symm.trans H; with_reducible exact H2_) | with_reducible exact H | (rw [hy254]; exact H) | exact H
                       have Ny254 := Aside0.mk hy254
                       clear hy254
                       have H' := Aside0.mk H
                       clear H
                       obtain ⟨Ao53, co53, eo53⟩ := Kd.R_slice HO_7.out
                       subst eo53
                       have p247 : 0 ≤ (x14_6 : Int) := of_decide_eq_true (by first | (with_reducible assumption) | assumption)
                       have q247 : x14_6 < (x7_1.length : Int) := of_decide_eq_true (by first | (with_reducible assumption) | assumption)
                       obtain ⟨ad247, e247, hx247_0⟩ := at_L4 (Kd.R_reads' HO_7.out).2.2 x14_6 p247 q247
                       cases e247; replace p247 := eq_true p247; replace q247 := eq_true q247
                       have hap54 := R_arr_at (k := .u16) (HO_9.out)
                       go_wp2_with (first | ((refine wpList_load_arr rfl _ rfl rfl hx247_0 Try.underlying50 (by kernel_rfl) ?_); (try simp only [Act.put, List.setIfInBounds_toArray, List.set_cons_zero, List.set_cons_succ])) | ((refine wpList_load_arr rfl _ rfl rfl hap54 Try.underlying50 (by kernel_rfl) ?_); (try simp only [Act.put, List.setIfInBounds_toArray, List.set_cons_zero, List.set_cons_succ])) | ((with_reducible refine gate_builtin (b := .append) (xs := #[.tmp 140, .tmp 143]) rfl ?_); at_builtin; refine Kd.R_append (Kd.int .u16) (w0 := w) w.heap.size rfl (.tmp 140) (.tmp 143) 43 49 (.int .u16 0) 2 rfl Try.underlying43 info49 rfl (by decide) (by omega) u6 x6_1 (IntKind.u16.wrap (x14_6)) [.int .u16 (IntKind.u16.wrap (x14_6))] (fun _ => True) (fun _ => False) rfl rfl ?aP (fun _ hk => hk.elim) ?aF ?aO ?aB ?aS ?aL ?_; (case aP => exact rfl); (case aB => exact (by repeat (first | (with_reducible first | exact HB.out | apply below_alloc | apply pw_below_drewN | apply below_drew1) | exact HB.out))); (case aF => exact (fun _ _ => trivial)); (case aO => exact (by (with_reducible repeat (first | apply Kd.R_alloc | apply Kd.R_drewN | apply Kd.R_drew)); exact HO_6.out)); (case aS => exact (below_size (by repeat (first | (with_reducible first | exact HB.out | apply below_alloc | apply pw_below_drewN | apply below_drew1) | exact HB.out)))); (case aL => have := LMc52.out; omega); intro v255 w55 ho hb hg hat; rw [← Ny254.out] at ho; have n0_ := Aside0.mk (Kd.R_over' (by (with_reducible repeat (first | apply Kd.R_alloc | apply Kd.R_drewN | apply Kd.R_drew)); first | exact HO_7.out | exact Kd.R_mono HO_7.out (fun _ hk => (by first | exact hk | exact fun e_ => hk (e_.trans (own_len _ _ _ _ _))))) (Kd.R_typed (by (with_reducible repeat (first | apply Kd.R_alloc | apply Kd.R_drewN | apply Kd.R_drew)); exact HO_6.out)) (by decide) hg); have n1_ := Aside0.mk (Kd.R_over' (by (with_reducible repeat (first | apply Kd.R_alloc | apply Kd.R_drewN | apply Kd.R_drew)); first | exact HO_9.out | exact Kd.R_mono HO_9.out (fun _ hk => (by first | exact hk | exact fun e_ => hk (e_.trans (own_len _ _ _ _ _))))) (Kd.R_typed (by (with_reducible repeat (first | apply Kd.R_alloc | apply Kd.R_drewN | apply Kd.R_drew)); exact HO_6.out)) (by decide) hg); have n2_ := Aside0.mk (hb); have n3_ := Aside0.mk (ho); clear HO_7; clear HO_9; clear HB; clear HO_6; have HO_7 := n0_; have HO_9 := n1_; have HB := n2_; have HO256 := n3_; clear n0_ n1_ n2_ n3_; clear ho hb hg hat))
                       repeat ((refine wp_region_quiet_lit (by kernel_rfl) (by kernel_rfl) ?_; (repeat (first | go_big_quiet_skip | (go_big_quiet_want; (first | refine oquiet_load_arr _ rfl rfl hx247_0 Try.underlying50 (by kernel_rfl) ?_ | refine oquiet_load_arr _ rfl rfl hap48 Try.underlying50 (by kernel_rfl) ?_ | refine oquiet_load_arr _ rfl rfl hap49 Try.underlying50 (by kernel_rfl) ?_ | refine oquiet_load_arr _ rfl rfl hx247_0 Try.underlying50 (by kernel_rfl) ?_ | refine oquiet_load_arr _ rfl rfl hap54 Try.underlying50 (by kernel_rfl) ?_); go_big_quiet_on; simp only [Act.put, List.setIfInBounds_toArray, List.set_cons_zero, List.set_cons_succ]) | go_big_quiet_step (fail) | quiet_step (fail))); refine wpQuiet_nil ?_; intro _ hwq_; obtain ⟨nq, hwr_⟩ := hwq_; subst hwr_); try go_wp2_with (first | ((refine wpList_load_arr rfl _ rfl rfl hx247_0 Try.underlying50 (by kernel_rfl) ?_); (try simp only [Act.put, List.setIfInBounds_toArray, List.set_cons_zero, List.set_cons_succ])) | ((refine wpList_load_arr rfl _ rfl rfl hap54 Try.underlying50 (by kernel_rfl) ?_); (try simp only [Act.put, List.setIfInBounds_toArray, List.set_cons_zero, List.set_cons_succ])) | ((with_reducible refine gate_builtin (b := .append) (xs := #[.tmp 140, .tmp 143]) rfl ?_); at_builtin; refine Kd.R_append (Kd.int .u16) (w0 := w) w.heap.size rfl (.tmp 140) (.tmp 143) 43 49 (.int .u16 0) 2 rfl Try.underlying43 info49 rfl (by decide) (by omega) u6 x6_1 (IntKind.u16.wrap (x14_6)) [.int .u16 (IntKind.u16.wrap (x14_6))] (fun _ => True) (fun _ => False) rfl rfl ?aP (fun _ hk => hk.elim) ?aF ?aO ?aB ?aS ?aL ?_; (case aP => exact rfl); (case aB => exact (by repeat (first | (with_reducible first | exact HB.out | apply below_alloc | apply pw_below_drewN | apply below_drew1) | exact HB.out))); (case aF => exact (fun _ _ => trivial)); (case aO => exact (by (with_reducible repeat (first | apply Kd.R_alloc | apply Kd.R_drewN | apply Kd.R_drew)); exact HO_6.out)); (case aS => exact (below_size (by repeat (first | (with_reducible first | exact HB.out | apply below_alloc | apply pw_below_drewN | apply below_drew1) | exact HB.out)))); (case aL => have := LMc52.out; omega); intro v255 w55 ho hb hg hat; rw [← Ny254.out] at ho; have n0_ := Aside0.mk (Kd.R_over' (by (with_reducible repeat (first | apply Kd.R_alloc | apply Kd.R_drewN | apply Kd.R_drew)); first | exact HO_7.out | exact Kd.R_mono HO_7.out (fun _ hk => (by first | exact hk | exact fun e_ => hk (e_.trans (own_len _ _ _ _ _))))) (Kd.R_typed (by (with_reducible repeat (first | apply Kd.R_alloc | apply Kd.R_drewN | apply Kd.R_drew)); exact HO_6.out)) (by decide) hg); have n1_ := Aside0.mk (Kd.R_over' (by (with_reducible repeat (first | apply Kd.R_alloc | apply Kd.R_drewN | apply Kd.R_drew)); first | exact HO_9.out | exact Kd.R_mono HO_9.out (fun _ hk => (by first | exact hk | exact fun e_ => hk (e_.trans (own_len _ _ _ _ _))))) (Kd.R_typed (by (with_reducible repeat (first | apply Kd.R_alloc | apply Kd.R_drewN | apply Kd.R_drew)); exact HO_6.out)) (by decide) hg); have n2_ := Aside0.mk (hb); have n3_ := Aside0.mk (ho); clear HO_7; clear HO_9; clear HB; clear HO_6; have HO_7 := n0_; have HO_9 := n1_; have HB := n2_; have HO256 := n3_; clear n0_ n1_ n2_ n3_; clear ho hb hg hat)))
                       go_roundg k6
                       case measure => have := HK1.out; have := HJ5.out; have := HJ9.out; have := HJ19.out; have := HJ28.out; have := HK6.out; omega
                       case rel => exact ⟨(y254), (x7_1), (x8_5), (y246), (x12_9), (wrap64 (x11_1 + 1)), (by first | rfl | (simp; done) | (simp [*]; done)), (by first | rfl | (simp; done) | (simp [*]; done)), (by first | rfl | (simp; done) | (simp [*]; done)), H', ⟨by have := HK1.out; have := HJ5.out; have := HJ9.out; have := HJ19.out; have := HJ28.out; have := HK6.out; omega⟩, ⟨by (with_reducible repeat (first | apply Kd.R_alloc | apply Kd.R_drewN | apply Kd.R_drew)); exact HO256.out⟩, ⟨by (with_reducible repeat (first | apply Kd.R_alloc | apply Kd.R_drewN | apply Kd.R_drew)); first | exact HO_7.out | exact Kd.R_mono HO_7.out (fun _ hk => (by first | exact hk | exact fun e_ => hk (e_.trans (own_len _ _ _ _ _))))⟩, ⟨by (with_reducible repeat (first | apply Kd.R_alloc | apply Kd.R_drewN | apply Kd.R_drew)); first | exact HO_9.out | exact Kd.R_mono HO_9.out (fun _ hk => (by first | exact hk | exact fun e_ => hk (e_.trans (own_len _ _ _ _ _))))⟩, ⟨by repeat (first | (with_reducible first | exact HB.out | apply below_alloc | apply pw_below_drewN | apply below_drew1) | exact HB.out)⟩⟩
                      ·rw [if_neg c52] at H
                       exact absurd H (by simp)
                    ·rw [if_neg c43] at H
                     have c43b0 : (arrEq 64 (rd_L4 x7_1 x14_6) y246) = false := by simpa using c43
                     clear c43
                     have H' := Aside0.mk H
                     clear H
                     obtain ⟨Ao56, co56, eo56⟩ := Kd.R_slice HO_7.out
                     subst eo56
                     have p247 : 0 ≤ (x14_6 : Int) := of_decide_eq_true (by first | (with_reducible assumption) | assumption)
                     have q247 : x14_6 < (x7_1.length : Int) := of_decide_eq_true (by first | (with_reducible assumption) | assumption)
                     obtain ⟨ad247, e247, hx247_0⟩ := at_L4 (Kd.R_reads' HO_7.out).2.2 x14_6 p247 q247
                     cases e247; replace p247 := eq_true p247; replace q247 := eq_true q247
                     have hap57 := R_arr_at (k := .u16) (HO_9.out)
                     go_wp2_with (first | ((refine wpList_load_arr rfl _ rfl rfl hx247_0 Try.underlying50 (by kernel_rfl) ?_); (try simp only [Act.put, List.setIfInBounds_toArray, List.set_cons_zero, List.set_cons_succ])) | ((refine wpList_load_arr rfl _ rfl rfl hap57 Try.underlying50 (by kernel_rfl) ?_); (try simp only [Act.put, List.setIfInBounds_toArray, List.set_cons_zero, List.set_cons_succ])))
                     repeat ((refine wp_region_quiet_lit (by kernel_rfl) (by kernel_rfl) ?_; (repeat (first | go_big_quiet_skip | (go_big_quiet_want; (first | refine oquiet_load_arr _ rfl rfl hx247_0 Try.underlying50 (by kernel_rfl) ?_ | refine oquiet_load_arr _ rfl rfl hap48 Try.underlying50 (by kernel_rfl) ?_ | refine oquiet_load_arr _ rfl rfl hap49 Try.underlying50 (by kernel_rfl) ?_ | refine oquiet_load_arr _ rfl rfl hx247_0 Try.underlying50 (by kernel_rfl) ?_ | refine oquiet_load_arr _ rfl rfl hap54 Try.underlying50 (by kernel_rfl) ?_ | refine oquiet_load_arr _ rfl rfl hx247_0 Try.underlying50 (by kernel_rfl) ?_ | refine oquiet_load_arr _ rfl rfl hap57 Try.underlying50 (by kernel_rfl) ?_); go_big_quiet_on; simp only [Act.put, List.setIfInBounds_toArray, List.set_cons_zero, List.set_cons_succ]) | go_big_quiet_step (fail) | quiet_step (fail))); refine wpQuiet_nil ?_; intro _ hwq_; obtain ⟨nq, hwr_⟩ := hwq_; subst hwr_); try go_wp2_with (first | ((refine wpList_load_arr rfl _ rfl rfl hx247_0 Try.underlying50 (by kernel_rfl) ?_); (try simp only [Act.put, List.setIfInBounds_toArray, List.set_cons_zero, List.set_cons_succ])) | ((refine wpList_load_arr rfl _ rfl rfl hap57 Try.underlying50 (by kernel_rfl) ?_); (try simp only [Act.put, List.setIfInBounds_toArray, List.set_cons_zero, List.set_cons_succ]))))
                     go_roundg k6
                     case measure => have := HK1.out; have := HJ5.out; have := HJ9.out; have := HJ19.out; have := HJ28.out; have := HK6.out; omega
                     case rel => exact ⟨(wrap64 (x14_6 + 1)), (by first | rfl | (simp; done) | (simp [*]; done)), H', ⟨by have := HK1.out; have := HJ5.out; have := HJ9.out; have := HJ19.out; have := HJ28.out; have := HK6.out; omega⟩, ⟨by (with_reducible repeat (first | apply Kd.R_alloc | apply Kd.R_drewN | apply Kd.R_drew)); exact HO_6.out⟩, ⟨by (with_reducible repeat (first | apply Kd.R_alloc | apply Kd.R_drewN | apply Kd.R_drew)); first | exact HO_7.out | exact Kd.R_mono HO_7.out (fun _ hk => (by first | exact hk | exact fun e_ => hk (e_.trans (own_len _ _ _ _ _))))⟩, ⟨by (with_reducible repeat (first | apply Kd.R_alloc | apply Kd.R_drewN | apply Kd.R_drew)); first | exact HO_9.out | exact Kd.R_mono HO_9.out (fun _ hk => (by first | exact hk | exact fun e_ => hk (e_.trans (own_len _ _ _ _ _))))⟩, ⟨by repeat (first | (with_reducible first | exact HB.out | apply below_alloc | apply pw_below_drewN | apply below_drew1) | exact HB.out)⟩⟩
                   ·rw [if_neg c42] at H
                    exact absurd H (by simp)
                  ·rw [if_neg c41] at H
                   have c41b0 : decide (x14_6 < (x7_1.length : Int)) = false := decide_eq_false c41
                   clear c41
                   by_cases c58 : x14_6 = (x7_1.length : Int)
                   ·rw [if_pos c58] at H
                    have c58b0 : (x14_6 == (x7_1.length : Int)) = true := beq_iff_eq.mpr c58
                    have c58b1 : (x14_6 != (x7_1.length : Int)) = false := bne_eq_false_iff_eq.mpr c58
                    clear c58
                    by_cases c59 : x7_1.length < 1099511627776
                    ·rw [if_pos c59] at H
                     have LMc59 := Aside0.mk c59
                     clear c59
                     obtain ⟨y257, hy257⟩ : ∃ y_ : List (List Int), y_ = (x7_1 ++ [y246]) := ⟨_, rfl⟩
                     replace H : (if x6_1.length < 70368744177664 then (endonymref4_Blocks.l0 k6 l0 a1 (x6_1 ++ [IntKind.u16.wrap (x14_6)]) y257 x8_5 y246 x12_9 (wrap64 (x11_1 + 1))) else (none)) = some (r1, r2) := by first | (rw [hy257]; with_reducible exact H) | (have H2_ := (Option.bind_some _ _).symm.trans H; rw [hy257]; with_reducible exact H2_) | (have H2_ := (Option.bind_some _ _).symm.trans H; with_reducible exact H2_) | with_reducible exact H | (rw [hy257]; exact H) | exact H
                     have Ny257 := Aside0.mk hy257
                     clear hy257
                     by_cases c60 : x6_1.length < 70368744177664
                     ·rw [if_pos c60] at H
                      have LMc60 := Aside0.mk c60
                      clear c60
                      obtain ⟨y260, hy260⟩ : ∃ y_ : List Int, y_ = (x6_1 ++ [IntKind.u16.wrap (x14_6)]) := ⟨_, rfl⟩
                      replace H : (endonymref4_Blocks.l0 k6 l0 a1 y260 y257 x8_5 y246 x12_9 (wrap64 (x11_1 + 1))) = some (r1, r2) := by first | (rw [hy260]; with_reducible exact H) | (have H2_ := (Option.bind_some _ _).symm.trans H; rw [hy260]; with_reducible exact H2_) | (have H2_ := (Option.bind_some _ _).symm.trans H; with_reducible exact H2_) | with_reducible exact H | (rw [hy260]; exact H) | exact H
                      have Ny260 := Aside0.mk hy260
                      clear hy260
                      have H' := Aside0.mk H
                      clear H
                      obtain ⟨Ao61, co61, eo61⟩ := Kd.R_slice HO_7.out
                      subst eo61
                      have hap62 := R_arr_at (k := .u16) (HO_9.out)
                      go_wp2_with (first | ((refine wpList_load_arr rfl _ rfl rfl hap62 Try.underlying50 (by kernel_rfl) ?_); (try simp only [Act.put, List.setIfInBounds_toArray, List.set_cons_zero, List.set_cons_succ])) | ((with_reducible refine gate_dst (N := 138) rfl ?_); refine wpList_lit_arr (z := .agg (arrV .u16 64 [])) (bytes := 128) rfl rfl rfl Try.underlying44 (by kernel_rfl) (by decide) (by decide) ?_; (try simp only [Act.put, List.setIfInBounds_toArray, List.set_cons_zero, List.set_cons_succ])) | ((with_reducible refine gate_builtin (b := .append) (xs := #[.tmp 136, .tmp 138]) rfl ?_); at_builtin; refine Kd.R_append (Kd.arr 64 (Kd.int .u16) (by decide)) (w0 := w) w.heap.size rfl (.tmp 136) (.tmp 138) 44 50 (.agg #[(.int .u16 0), (.int .u16 0), (.int .u16 0), (.int .u16 0), (.int .u16 0), (.int .u16 0), (.int .u16 0), (.int .u16 0), (.int .u16 0), (.int .u16 0), (.int .u16 0), (.int .u16 0), (.int .u16 0), (.int .u16 0), (.int .u16 0), (.int .u16 0), (.int .u16 0), (.int .u16 0), (.int .u16 0), (.int .u16 0), (.int .u16 0), (.int .u16 0), (.int .u16 0), (.int .u16 0), (.int .u16 0), (.int .u16 0), (.int .u16 0), (.int .u16 0), (.int .u16 0), (.int .u16 0), (.int .u16 0), (.int .u16 0), (.int .u16 0), (.int .u16 0), (.int .u16 0), (.int .u16 0), (.int .u16 0), (.int .u16 0), (.int .u16 0), (.int .u16 0), (.int .u16 0), (.int .u16 0), (.int .u16 0), (.int .u16 0), (.int .u16 0), (.int .u16 0), (.int .u16 0), (.int .u16 0), (.int .u16 0), (.int .u16 0), (.int .u16 0), (.int .u16 0), (.int .u16 0), (.int .u16 0), (.int .u16 0), (.int .u16 0), (.int .u16 0), (.int .u16 0), (.int .u16 0), (.int .u16 0), (.int .u16 0), (.int .u16 0), (.int .u16 0), (.int .u16 0)]) 128 rfl Try.underlying44 (by kernel_rfl) rfl (by decide) (by omega) (.slice Ao61 x7_1.length co61) x7_1 y246 (arrL .u16 64 y246) (fun k_ => some k_ ≠ (.slice (some ⟨goa230, 0, none⟩) 64 64 : Value).ownBlock) (fun _ => False) rfl rfl ?aP (fun _ hk => hk.elim) ?aF ?aO ?aB ?aS ?aL ?_; (case aP => exact arr_M (R_arr_heap HO_9.out).2.1); (case aB => exact (by repeat (first | (with_reducible first | exact HB.out | apply below_alloc | apply pw_below_drewN | apply below_drew1) | exact HB.out))); (case aF => exact (fun k_ hk => Kd.fresh' (Kd.R_lt (by (with_reducible repeat (first | apply Kd.R_alloc | apply Kd.R_drewN | apply Kd.R_drew)); first | exact HO_9.out | exact Kd.R_mono HO_9.out (fun _ hk => (by first | exact hk | exact fun e_ => hk (e_.trans (own_len _ _ _ _ _)))))) k_ hk)); (case aO => exact (by (with_reducible repeat (first | apply Kd.R_alloc | apply Kd.R_drewN | apply Kd.R_drew)); first | exact HO_7.out | exact Kd.R_mono HO_7.out (fun _ hk => (by first | exact hk | exact fun e_ => hk (e_.trans (own_len _ _ _ _ _)))))); (case aS => exact (below_size (by repeat (first | (with_reducible first | exact HB.out | apply below_alloc | apply pw_below_drewN | apply below_drew1) | exact HB.out)))); (case aL => have := LMc59.out; omega); intro v258 w63 ho hb hg hat; rw [← Ny257.out] at ho; have n0_ := Aside0.mk (Kd.R_over' (by (with_reducible repeat (first | apply Kd.R_alloc | apply Kd.R_drewN | apply Kd.R_drew)); exact HO_6.out) (Kd.R_typed (by (with_reducible repeat (first | apply Kd.R_alloc | apply Kd.R_drewN | apply Kd.R_drew)); first | exact HO_7.out | exact Kd.R_mono HO_7.out (fun _ hk => (by first | exact hk | exact fun e_ => hk (e_.trans (own_len _ _ _ _ _)))))) (by decide) hg); have n1_ := Aside0.mk (Kd.R_after (ok := (fun _ => True)) (by (with_reducible repeat (first | apply Kd.R_alloc | apply Kd.R_drewN | apply Kd.R_drew)); first | exact Kd.R_mono HO_9.out (fun _ hk => ⟨trivial, hk⟩) | exact Kd.R_mono HO_9.out (fun _ hk => ⟨trivial, (by first | exact hk | exact fun e_ => hk (e_.trans (own_len _ _ _ _ _)))⟩)) hg hat); have n2_ := Aside0.mk (hb); have n3_ := Aside0.mk (ho); clear HO_6; clear HO_9; clear HB; clear HO_7; have HO_6 := n0_; have HO_9 := n1_; have HB := n2_; have HO259 := n3_; clear n0_ n1_ n2_ n3_; clear ho hb hg hat) | ((with_reducible refine gate_builtin (b := .append) (xs := #[.tmp 140, .tmp 143]) rfl ?_); at_builtin; refine Kd.R_append (Kd.int .u16) (w0 := w) w.heap.size rfl (.tmp 140) (.tmp 143) 43 49 (.int .u16 0) 2 rfl Try.underlying43 info49 rfl (by decide) (by omega) u6 x6_1 (IntKind.u16.wrap (x14_6)) [.int .u16 (IntKind.u16.wrap (x14_6))] (fun _ => True) (fun _ => False) rfl rfl ?aP (fun _ hk => hk.elim) ?aF ?aO ?aB ?aS ?aL ?_; (case aP => exact rfl); (case aB => exact (by repeat (first | (with_reducible first | exact HB.out | apply below_alloc | apply pw_below_drewN | apply below_drew1) | exact HB.out))); (case aF => exact (fun _ _ => trivial)); (case aO => exact (by (with_reducible repeat (first | apply Kd.R_alloc | apply Kd.R_drewN | apply Kd.R_drew)); exact HO_6.out)); (case aS => exact (below_size (by repeat (first | (with_reducible first | exact HB.out | apply below_alloc | apply pw_below_drewN | apply below_drew1) | exact HB.out)))); (case aL => have := LMc60.out; omega); intro v261 w64 ho hb hg hat; rw [← Ny260.out] at ho; have n0_ := Aside0.mk (Kd.R_over' (by (with_reducible repeat (first | apply Kd.R_alloc | apply Kd.R_drewN | apply Kd.R_drew)); first | exact HO_9.out | exact Kd.R_mono HO_9.out (fun _ hk => ⟨trivial, (by first | exact hk.2 | exact fun e_ => hk.2 (e_.trans (own_len _ _ _ _ _)))⟩)) (Kd.R_typed (by (with_reducible repeat (first | apply Kd.R_alloc | apply Kd.R_drewN | apply Kd.R_drew)); exact HO_6.out)) (by decide) hg); have n1_ := Aside0.mk (Kd.R_over' (by (with_reducible repeat (first | apply Kd.R_alloc | apply Kd.R_drewN | apply Kd.R_drew)); first | exact HO259.out | exact Kd.R_mono HO259.out (fun _ hk => (by first | exact hk | exact fun e_ => hk (e_.trans (own_len _ _ _ _ _))))) (Kd.R_typed (by (with_reducible repeat (first | apply Kd.R_alloc | apply Kd.R_drewN | apply Kd.R_drew)); exact HO_6.out)) (by decide) hg); have n2_ := Aside0.mk (hb); have n3_ := Aside0.mk (ho); clear HO_9; clear HO259; clear HB; clear HO_6; have HO_9 := n0_; have HO259 := n1_; have HB := n2_; have HO262 := n3_; clear n0_ n1_ n2_ n3_; clear ho hb hg hat))
                      repeat ((refine wp_region_quiet_lit (by kernel_rfl) (by kernel_rfl) ?_; (repeat (first | go_big_quiet_skip | (go_big_quiet_want; (first | refine oquiet_load_arr _ rfl rfl hx247_0 Try.underlying50 (by kernel_rfl) ?_ | refine oquiet_load_arr _ rfl rfl hap48 Try.underlying50 (by kernel_rfl) ?_ | refine oquiet_load_arr _ rfl rfl hap49 Try.underlying50 (by kernel_rfl) ?_ | refine oquiet_load_arr _ rfl rfl hx247_0 Try.underlying50 (by kernel_rfl) ?_ | refine oquiet_load_arr _ rfl rfl hap54 Try.underlying50 (by kernel_rfl) ?_ | refine oquiet_load_arr _ rfl rfl hx247_0 Try.underlying50 (by kernel_rfl) ?_ | refine oquiet_load_arr _ rfl rfl hap57 Try.underlying50 (by kernel_rfl) ?_ | refine oquiet_load_arr _ rfl rfl hap62 Try.underlying50 (by kernel_rfl) ?_); go_big_quiet_on; simp only [Act.put, List.setIfInBounds_toArray, List.set_cons_zero, List.set_cons_succ]) | go_big_quiet_step (fail) | quiet_step (fail))); refine wpQuiet_nil ?_; intro _ hwq_; obtain ⟨nq, hwr_⟩ := hwq_; subst hwr_); try go_wp2_with (first | ((refine wpList_load_arr rfl _ rfl rfl hap62 Try.underlying50 (by kernel_rfl) ?_); (try simp only [Act.put, List.setIfInBounds_toArray, List.set_cons_zero, List.set_cons_succ])) | ((with_reducible refine gate_dst (N := 138) rfl ?_); refine wpList_lit_arr (z := .agg (arrV .u16 64 [])) (bytes := 128) rfl rfl rfl Try.underlying44 (by kernel_rfl) (by decide) (by decide) ?_; (try simp only [Act.put, List.setIfInBounds_toArray, List.set_cons_zero, List.set_cons_succ])) | ((with_reducible refine gate_builtin (b := .append) (xs := #[.tmp 136, .tmp 138]) rfl ?_); at_builtin; refine Kd.R_append (Kd.arr 64 (Kd.int .u16) (by decide)) (w0 := w) w.heap.size rfl (.tmp 136) (.tmp 138) 44 50 (.agg #[(.int .u16 0), (.int .u16 0), (.int .u16 0), (.int .u16 0), (.int .u16 0), (.int .u16 0), (.int .u16 0), (.int .u16 0), (.int .u16 0), (.int .u16 0), (.int .u16 0), (.int .u16 0), (.int .u16 0), (.int .u16 0), (.int .u16 0), (.int .u16 0), (.int .u16 0), (.int .u16 0), (.int .u16 0), (.int .u16 0), (.int .u16 0), (.int .u16 0), (.int .u16 0), (.int .u16 0), (.int .u16 0), (.int .u16 0), (.int .u16 0), (.int .u16 0), (.int .u16 0), (.int .u16 0), (.int .u16 0), (.int .u16 0), (.int .u16 0), (.int .u16 0), (.int .u16 0), (.int .u16 0), (.int .u16 0), (.int .u16 0), (.int .u16 0), (.int .u16 0), (.int .u16 0), (.int .u16 0), (.int .u16 0), (.int .u16 0), (.int .u16 0), (.int .u16 0), (.int .u16 0), (.int .u16 0), (.int .u16 0), (.int .u16 0), (.int .u16 0), (.int .u16 0), (.int .u16 0), (.int .u16 0), (.int .u16 0), (.int .u16 0), (.int .u16 0), (.int .u16 0), (.int .u16 0), (.int .u16 0), (.int .u16 0), (.int .u16 0), (.int .u16 0), (.int .u16 0)]) 128 rfl Try.underlying44 (by kernel_rfl) rfl (by decide) (by omega) (.slice Ao61 x7_1.length co61) x7_1 y246 (arrL .u16 64 y246) (fun k_ => some k_ ≠ (.slice (some ⟨goa230, 0, none⟩) 64 64 : Value).ownBlock) (fun _ => False) rfl rfl ?aP (fun _ hk => hk.elim) ?aF ?aO ?aB ?aS ?aL ?_; (case aP => exact arr_M (R_arr_heap HO_9.out).2.1); (case aB => exact (by repeat (first | (with_reducible first | exact HB.out | apply below_alloc | apply pw_below_drewN | apply below_drew1) | exact HB.out))); (case aF => exact (fun k_ hk => Kd.fresh' (Kd.R_lt (by (with_reducible repeat (first | apply Kd.R_alloc | apply Kd.R_drewN | apply Kd.R_drew)); first | exact HO_9.out | exact Kd.R_mono HO_9.out (fun _ hk => (by first | exact hk | exact fun e_ => hk (e_.trans (own_len _ _ _ _ _)))))) k_ hk)); (case aO => exact (by (with_reducible repeat (first | apply Kd.R_alloc | apply Kd.R_drewN | apply Kd.R_drew)); first | exact HO_7.out | exact Kd.R_mono HO_7.out (fun _ hk => (by first | exact hk | exact fun e_ => hk (e_.trans (own_len _ _ _ _ _)))))); (case aS => exact (below_size (by repeat (first | (with_reducible first | exact HB.out | apply below_alloc | apply pw_below_drewN | apply below_drew1) | exact HB.out)))); (case aL => have := LMc59.out; omega); intro v258 w63 ho hb hg hat; rw [← Ny257.out] at ho; have n0_ := Aside0.mk (Kd.R_over' (by (with_reducible repeat (first | apply Kd.R_alloc | apply Kd.R_drewN | apply Kd.R_drew)); exact HO_6.out) (Kd.R_typed (by (with_reducible repeat (first | apply Kd.R_alloc | apply Kd.R_drewN | apply Kd.R_drew)); first | exact HO_7.out | exact Kd.R_mono HO_7.out (fun _ hk => (by first | exact hk | exact fun e_ => hk (e_.trans (own_len _ _ _ _ _)))))) (by decide) hg); have n1_ := Aside0.mk (Kd.R_after (ok := (fun _ => True)) (by (with_reducible repeat (first | apply Kd.R_alloc | apply Kd.R_drewN | apply Kd.R_drew)); first | exact Kd.R_mono HO_9.out (fun _ hk => ⟨trivial, hk⟩) | exact Kd.R_mono HO_9.out (fun _ hk => ⟨trivial, (by first | exact hk | exact fun e_ => hk (e_.trans (own_len _ _ _ _ _)))⟩)) hg hat); have n2_ := Aside0.mk (hb); have n3_ := Aside0.mk (ho); clear HO_6; clear HO_9; clear HB; clear HO_7; have HO_6 := n0_; have HO_9 := n1_; have HB := n2_; have HO259 := n3_; clear n0_ n1_ n2_ n3_; clear ho hb hg hat) | ((with_reducible refine gate_builtin (b := .append) (xs := #[.tmp 140, .tmp 143]) rfl ?_); at_builtin; refine Kd.R_append (Kd.int .u16) (w0 := w) w.heap.size rfl (.tmp 140) (.tmp 143) 43 49 (.int .u16 0) 2 rfl Try.underlying43 info49 rfl (by decide) (by omega) u6 x6_1 (IntKind.u16.wrap (x14_6)) [.int .u16 (IntKind.u16.wrap (x14_6))] (fun _ => True) (fun _ => False) rfl rfl ?aP (fun _ hk => hk.elim) ?aF ?aO ?aB ?aS ?aL ?_; (case aP => exact rfl); (case aB => exact (by repeat (first | (with_reducible first | exact HB.out | apply below_alloc | apply pw_below_drewN | apply below_drew1) | exact HB.out))); (case aF => exact (fun _ _ => trivial)); (case aO => exact (by (with_reducible repeat (first | apply Kd.R_alloc | apply Kd.R_drewN | apply Kd.R_drew)); exact HO_6.out)); (case aS => exact (below_size (by repeat (first | (with_reducible first | exact HB.out | apply below_alloc | apply pw_below_drewN | apply below_drew1) | exact HB.out)))); (case aL => have := LMc60.out; omega); intro v261 w64 ho hb hg hat; rw [← Ny260.out] at ho; have n0_ := Aside0.mk (Kd.R_over' (by (with_reducible repeat (first | apply Kd.R_alloc | apply Kd.R_drewN | apply Kd.R_drew)); first | exact HO_9.out | exact Kd.R_mono HO_9.out (fun _ hk => ⟨trivial, (by first | exact hk.2 | exact fun e_ => hk.2 (e_.trans (own_len _ _ _ _ _)))⟩)) (Kd.R_typed (by (with_reducible repeat (first | apply Kd.R_alloc | apply Kd.R_drewN | apply Kd.R_drew)); exact HO_6.out)) (by decide) hg); have n1_ := Aside0.mk (Kd.R_over' (by (with_reducible repeat (first | apply Kd.R_alloc | apply Kd.R_drewN | apply Kd.R_drew)); first | exact HO259.out | exact Kd.R_mono HO259.out (fun _ hk => (by first | exact hk | exact fun e_ => hk (e_.trans (own_len _ _ _ _ _))))) (Kd.R_typed (by (with_reducible repeat (first | apply Kd.R_alloc | apply Kd.R_drewN | apply Kd.R_drew)); exact HO_6.out)) (by decide) hg); have n2_ := Aside0.mk (hb); have n3_ := Aside0.mk (ho); clear HO_9; clear HO259; clear HB; clear HO_6; have HO_9 := n0_; have HO259 := n1_; have HB := n2_; have HO262 := n3_; clear n0_ n1_ n2_ n3_; clear ho hb hg hat)))
                      go_roundg k6
                      case measure => have := HK1.out; have := HJ5.out; have := HJ9.out; have := HJ19.out; have := HJ28.out; have := HK6.out; omega
                      case rel => exact ⟨(y260), (y257), (x8_5), (y246), (x12_9), (wrap64 (x11_1 + 1)), (by first | rfl | (simp; done) | (simp [*]; done)), (by first | rfl | (simp; done) | (simp [*]; done)), (by first | rfl | (simp; done) | (simp [*]; done)), H', ⟨by have := HK1.out; have := HJ5.out; have := HJ9.out; have := HJ19.out; have := HJ28.out; have := HK6.out; omega⟩, ⟨by (with_reducible repeat (first | apply Kd.R_alloc | apply Kd.R_drewN | apply Kd.R_drew)); exact HO262.out⟩, ⟨by (with_reducible repeat (first | apply Kd.R_alloc | apply Kd.R_drewN | apply Kd.R_drew)); first | exact HO259.out | exact Kd.R_mono HO259.out (fun _ hk => (by first | exact hk | exact fun e_ => hk (e_.trans (own_len _ _ _ _ _))))⟩, ⟨by (with_reducible repeat (first | apply Kd.R_alloc | apply Kd.R_drewN | apply Kd.R_drew)); first | exact Kd.R_mono HO_9.out (fun _ hk => hk.2) | exact Kd.R_mono HO_9.out (fun _ hk => (by first | exact hk.2 | exact fun e_ => hk.2 (e_.trans (own_len _ _ _ _ _))))⟩, ⟨by repeat (first | (with_reducible first | exact HB.out | apply below_alloc | apply pw_below_drewN | apply below_drew1) | exact HB.out)⟩⟩
                     ·rw [if_neg c60] at H
                      exact absurd H (by simp)
                    ·rw [if_neg c59] at H
                     exact absurd H (by simp)
                   ·rw [if_neg c58] at H
                    have c58b0 : (x14_6 == (x7_1.length : Int)) = false := beq_eq_false_iff_ne.mpr c58
                    have c58b1 : (x14_6 != (x7_1.length : Int)) = true := bne_iff_ne.mpr c58
                    by_cases c65 : x6_1.length < 70368744177664
                    ·rw [if_pos c65] at H
                     have LMc65 := Aside0.mk c65
                     clear c65
                     obtain ⟨y263, hy263⟩ : ∃ y_ : List Int, y_ = (x6_1 ++ [IntKind.u16.wrap (x14_6)]) := ⟨_, rfl⟩
                     replace H : (endonymref4_Blocks.l0 k6 l0 a1 y263 x7_1 x8_5 y246 x12_9 (wrap64 (x11_1 + 1))) = some (r1, r2) := by first | (rw [hy263]; with_reducible exact H) | (have H2_ := (Option.bind_some _ _).symm.trans H; rw [hy263]; with_reducible exact H2_) | (have H2_ := (Option.bind_some _ _).symm.trans H; with_reducible exact H2_) | with_reducible exact H | (rw [hy263]; exact H) | exact H
                     have Ny263 := Aside0.mk hy263
                     clear hy263
                     have H' := Aside0.mk H
                     clear H
                     obtain ⟨Ao66, co66, eo66⟩ := Kd.R_slice HO_7.out
                     subst eo66
                     go_wp2_with (first | ((with_reducible refine gate_builtin (b := .append) (xs := #[.tmp 140, .tmp 143]) rfl ?_); at_builtin; refine Kd.R_append (Kd.int .u16) (w0 := w) w.heap.size rfl (.tmp 140) (.tmp 143) 43 49 (.int .u16 0) 2 rfl Try.underlying43 info49 rfl (by decide) (by omega) u6 x6_1 (IntKind.u16.wrap (x14_6)) [.int .u16 (IntKind.u16.wrap (x14_6))] (fun _ => True) (fun _ => False) rfl rfl ?aP (fun _ hk => hk.elim) ?aF ?aO ?aB ?aS ?aL ?_; (case aP => exact rfl); (case aB => exact (by repeat (first | (with_reducible first | exact HB.out | apply below_alloc | apply pw_below_drewN | apply below_drew1) | exact HB.out))); (case aF => exact (fun _ _ => trivial)); (case aO => exact (by (with_reducible repeat (first | apply Kd.R_alloc | apply Kd.R_drewN | apply Kd.R_drew)); exact HO_6.out)); (case aS => exact (below_size (by repeat (first | (with_reducible first | exact HB.out | apply below_alloc | apply pw_below_drewN | apply below_drew1) | exact HB.out)))); (case aL => have := LMc65.out; omega); intro v264 w67 ho hb hg hat; rw [← Ny263.out] at ho; have n0_ := Aside0.mk (Kd.R_over' (by (with_reducible repeat (first | apply Kd.R_alloc | apply Kd.R_drewN | apply Kd.R_drew)); first | exact HO_7.out | exact Kd.R_mono HO_7.out (fun _ hk => (by first | exact hk | exact fun e_ => hk (e_.trans (own_len _ _ _ _ _))))) (Kd.R_typed (by (with_reducible repeat (first | apply Kd.R_alloc | apply Kd.R_drewN | apply Kd.R_drew)); exact HO_6.out)) (by decide) hg); have n1_ := Aside0.mk (Kd.R_over' (by (with_reducible repeat (first | apply Kd.R_alloc | apply Kd.R_drewN | apply Kd.R_drew)); first | exact HO_9.out | exact Kd.R_mono HO_9.out (fun _ hk => (by first | exact hk | exact fun e_ => hk (e_.trans (own_len _ _ _ _ _))))) (Kd.R_typed (by (with_reducible repeat (first | apply Kd.R_alloc | apply Kd.R_drewN | apply Kd.R_drew)); exact HO_6.out)) (by decide) hg); have n2_ := Aside0.mk (hb); have n3_ := Aside0.mk (ho); clear HO_7; clear HO_9; clear HB; clear HO_6; have HO_7 := n0_; have HO_9 := n1_; have HB := n2_; have HO265 := n3_; clear n0_ n1_ n2_ n3_; clear ho hb hg hat))
                     repeat ((refine wp_region_quiet_lit (by kernel_rfl) (by kernel_rfl) ?_; (repeat (first | go_big_quiet_skip | (go_big_quiet_want; (first | refine oquiet_load_arr _ rfl rfl hx247_0 Try.underlying50 (by kernel_rfl) ?_ | refine oquiet_load_arr _ rfl rfl hap48 Try.underlying50 (by kernel_rfl) ?_ | refine oquiet_load_arr _ rfl rfl hap49 Try.underlying50 (by kernel_rfl) ?_ | refine oquiet_load_arr _ rfl rfl hx247_0 Try.underlying50 (by kernel_rfl) ?_ | refine oquiet_load_arr _ rfl rfl hap54 Try.underlying50 (by kernel_rfl) ?_ | refine oquiet_load_arr _ rfl rfl hx247_0 Try.underlying50 (by kernel_rfl) ?_ | refine oquiet_load_arr _ rfl rfl hap57 Try.underlying50 (by kernel_rfl) ?_ | refine oquiet_load_arr _ rfl rfl hap62 Try.underlying50 (by kernel_rfl) ?_); go_big_quiet_on; simp only [Act.put, List.setIfInBounds_toArray, List.set_cons_zero, List.set_cons_succ]) | go_big_quiet_step (fail) | quiet_step (fail))); refine wpQuiet_nil ?_; intro _ hwq_; obtain ⟨nq, hwr_⟩ := hwq_; subst hwr_); try go_wp2_with (first | ((with_reducible refine gate_builtin (b := .append) (xs := #[.tmp 140, .tmp 143]) rfl ?_); at_builtin; refine Kd.R_append (Kd.int .u16) (w0 := w) w.heap.size rfl (.tmp 140) (.tmp 143) 43 49 (.int .u16 0) 2 rfl Try.underlying43 info49 rfl (by decide) (by omega) u6 x6_1 (IntKind.u16.wrap (x14_6)) [.int .u16 (IntKind.u16.wrap (x14_6))] (fun _ => True) (fun _ => False) rfl rfl ?aP (fun _ hk => hk.elim) ?aF ?aO ?aB ?aS ?aL ?_; (case aP => exact rfl); (case aB => exact (by repeat (first | (with_reducible first | exact HB.out | apply below_alloc | apply pw_below_drewN | apply below_drew1) | exact HB.out))); (case aF => exact (fun _ _ => trivial)); (case aO => exact (by (with_reducible repeat (first | apply Kd.R_alloc | apply Kd.R_drewN | apply Kd.R_drew)); exact HO_6.out)); (case aS => exact (below_size (by repeat (first | (with_reducible first | exact HB.out | apply below_alloc | apply pw_below_drewN | apply below_drew1) | exact HB.out)))); (case aL => have := LMc65.out; omega); intro v264 w67 ho hb hg hat; rw [← Ny263.out] at ho; have n0_ := Aside0.mk (Kd.R_over' (by (with_reducible repeat (first | apply Kd.R_alloc | apply Kd.R_drewN | apply Kd.R_drew)); first | exact HO_7.out | exact Kd.R_mono HO_7.out (fun _ hk => (by first | exact hk | exact fun e_ => hk (e_.trans (own_len _ _ _ _ _))))) (Kd.R_typed (by (with_reducible repeat (first | apply Kd.R_alloc | apply Kd.R_drewN | apply Kd.R_drew)); exact HO_6.out)) (by decide) hg); have n1_ := Aside0.mk (Kd.R_over' (by (with_reducible repeat (first | apply Kd.R_alloc | apply Kd.R_drewN | apply Kd.R_drew)); first | exact HO_9.out | exact Kd.R_mono HO_9.out (fun _ hk => (by first | exact hk | exact fun e_ => hk (e_.trans (own_len _ _ _ _ _))))) (Kd.R_typed (by (with_reducible repeat (first | apply Kd.R_alloc | apply Kd.R_drewN | apply Kd.R_drew)); exact HO_6.out)) (by decide) hg); have n2_ := Aside0.mk (hb); have n3_ := Aside0.mk (ho); clear HO_7; clear HO_9; clear HB; clear HO_6; have HO_7 := n0_; have HO_9 := n1_; have HB := n2_; have HO265 := n3_; clear n0_ n1_ n2_ n3_; clear ho hb hg hat)))
                     go_roundg k6
                     case measure => have := HK1.out; have := HJ5.out; have := HJ9.out; have := HJ19.out; have := HJ28.out; have := HK6.out; omega
                     case rel => exact ⟨(y263), (x7_1), (x8_5), (y246), (x12_9), (wrap64 (x11_1 + 1)), (by first | rfl | (simp; done) | (simp [*]; done)), (by first | rfl | (simp; done) | (simp [*]; done)), (by first | rfl | (simp; done) | (simp [*]; done)), H', ⟨by have := HK1.out; have := HJ5.out; have := HJ9.out; have := HJ19.out; have := HJ28.out; have := HK6.out; omega⟩, ⟨by (with_reducible repeat (first | apply Kd.R_alloc | apply Kd.R_drewN | apply Kd.R_drew)); exact HO265.out⟩, ⟨by (with_reducible repeat (first | apply Kd.R_alloc | apply Kd.R_drewN | apply Kd.R_drew)); first | exact HO_7.out | exact Kd.R_mono HO_7.out (fun _ hk => (by first | exact hk | exact fun e_ => hk (e_.trans (own_len _ _ _ _ _))))⟩, ⟨by (with_reducible repeat (first | apply Kd.R_alloc | apply Kd.R_drewN | apply Kd.R_drew)); first | exact HO_9.out | exact Kd.R_mono HO_9.out (fun _ hk => (by first | exact hk | exact fun e_ => hk (e_.trans (own_len _ _ _ _ _))))⟩, ⟨by repeat (first | (with_reducible first | exact HB.out | apply below_alloc | apply pw_below_drewN | apply below_drew1) | exact HB.out)⟩⟩
                    ·rw [if_neg c65] at H
                     exact absurd H (by simp)
               ·rw [if_neg c35] at H
                exact absurd H (by simp)
              ·rw [if_neg c34] at H
               exact absurd H (by simp)
             ·rw [if_neg c33] at H
              exact absurd H (by simp)
   ·rw [if_neg c5] at H
    have c5b0 : decide (x11_1 < 17408) = false := decide_eq_false c5
    clear c5
    simp only [Option.some.injEq, Prod.mk.injEq] at H
    obtain ⟨rfl, rfl⟩ := H
    go_wp2
    repeat ((refine wp_region_quiet_lit (by kernel_rfl) (by kernel_rfl) ?_; (repeat (first | go_big_quiet_skip | (go_big_quiet_want; (first | refine oquiet_load_arr _ rfl rfl hx247_0 Try.underlying50 (by kernel_rfl) ?_ | refine oquiet_load_arr _ rfl rfl hap48 Try.underlying50 (by kernel_rfl) ?_ | refine oquiet_load_arr _ rfl rfl hap49 Try.underlying50 (by kernel_rfl) ?_ | refine oquiet_load_arr _ rfl rfl hx247_0 Try.underlying50 (by kernel_rfl) ?_ | refine oquiet_load_arr _ rfl rfl hap54 Try.underlying50 (by kernel_rfl) ?_ | refine oquiet_load_arr _ rfl rfl hx247_0 Try.underlying50 (by kernel_rfl) ?_ | refine oquiet_load_arr _ rfl rfl hap57 Try.underlying50 (by kernel_rfl) ?_ | refine oquiet_load_arr _ rfl rfl hap62 Try.underlying50 (by kernel_rfl) ?_); go_big_quiet_on; simp only [Act.put, List.setIfInBounds_toArray, List.set_cons_zero, List.set_cons_succ]) | go_big_quiet_step (fail) | quiet_step (fail))); refine wpQuiet_nil ?_; intro _ hwq_; obtain ⟨nq, hwr_⟩ := hwq_; subst hwr_); try go_wp2_with (fail))
    go_ret2
    exact ⟨_, _, by first | rfl | (simp [errW_none, errW_some] <;> rfl) | (simp [*, errW_none, errW_some] <;> rfl), by (with_reducible repeat (first | apply Kd.R_alloc | apply Kd.R_drewN | apply Kd.R_drew)); exact HO_6.out, by (with_reducible repeat (first | apply Kd.R_alloc | apply Kd.R_drewN | apply Kd.R_drew)); exact Kd.R_mono HO_7.out (fun _ hk => trivial), by repeat (first | (with_reducible first | exact HB.out | apply below_alloc | apply pw_below_drewN | apply below_drew1) | exact HB.out)⟩

end Go.Proofs.Ytiaodapgankjnaa.Q
