-- Written by wip/tools/pr.py of this session over the kit's print (widened); the words are the kit's print's own. Not trusted: Lean checks it.
import Derived.Test.YtiaodapgankjnaaQx0
import Derived.Test.YtiaodapgankjnaaQx2
import Derived.Test.YtiaodapgankjnaaQx4
import Derived.Test.YtiaodapgankjnaaQx6
import Derived.Test.YtiaodapgankjnaaQx10
import Derived.Test.YtiaodapgankjnaaQx14
namespace Go.Proofs.Ytiaodapgankjnaa.Q
open Go.RowKit Go.Proofs.YtiaodapgankjnaaW.PrintWords Go.Proofs.YtiaodapgankjnaaW.PrintLast Go.Proofs.YtiaodapgankjnaaW.PrintMore
attribute [local go_sem] max2_int min2_int max_two min_two max_three min_three max_four min_four   -- for this text's walks alone
set_option linter.unusedVariables false
set_option linter.unusedSimpArgs false

/-! ### endonymlaw4_TrieCut: function 6 -/
mutual
def endonymlaw4_TrieCut.j0 : Nat → List (S35) → Int → List Int → List (S57) → Int → Bool → Option (Bool)
 | 0, _, _, _, _, _, _ => none
 | k + 1, x0, x1, x2, x7, x9, x39 => if x39 = true then ((endonymlaw4_told.f k).bind fun t370 => (if t370 = true then (some (x9 != 0)) else (some false))) else (endonymlaw4_TrieCut.l0 k x0 x1 x2 x7 ([] : List (S35)) 0 0)
def endonymlaw4_TrieCut.l0 : Nat → List (S35) → Int → List Int → List (S57) → List (S35) → Int → Int → Option (Bool)
 | 0, _, _, _, _, _, _, _ => none
 | k + 1, x0, x1, x2, x7, x10, x11, x12 => if x12 < (x0.length : Int) then (if 0 ≤ x12 then (if x12 < (x2.length : Int) then (endonymlaw4_TrieCut.j2 k x0 x1 x2 x7 x10 x11 x12 (Go.bits .and .i64 (rd x2 x12) 1073741823) ((rd_T35 x0 x12).f0) ((rd_T35 x0 x12).f1) ((rd_T35 x0 x12).f2)) else (endonymlaw4_TrieCut.j2 k x0 x1 x2 x7 x10 x11 x12 1 ((rd_T35 x0 x12).f0) ((rd_T35 x0 x12).f1) ((rd_T35 x0 x12).f2))) else (none)) else ((trie_Build.f k x10 x1).bind fun bt395 => ((endonymlaw4_told.f k).bind fun t400 => (if t400 = true then (if bt395.2.2 = 0 then (if (bt395.1.isEmpty) = true then (endonymlaw4_TrieCut.j4 k x7 bt395.1 true) else ((trie_Trie_Same.f k x7 bt395.1).bind fun t401 => (if t401 = true then ((trie_Trie_Blocks.f x7).bind fun t402 => ((trie_Trie_Blocks.f bt395.1).bind fun t403 => (if t402 = t403 then ((trie_Trie_Ranges.f k x7).bind fun t404 => ((trie_Trie_Ranges.f k bt395.1).bind fun t407 => ((endonymref4_Same.f k t404 t407).bind fun t410 => (endonymlaw4_TrieCut.j4 k x7 bt395.1 (!t410))))) else (endonymlaw4_TrieCut.j4 k x7 bt395.1 true)))) else (endonymlaw4_TrieCut.j4 k x7 bt395.1 true)))) else (endonymlaw4_TrieCut.j4 k x7 bt395.1 true)) else (endonymlaw4_TrieCut.j4 k x7 bt395.1 true))))
def endonymlaw4_TrieCut.j2 : Nat → List (S35) → Int → List Int → List (S57) → List (S35) → Int → Int → Int → Int → Int → Int → Option (Bool)
 | 0, _, _, _, _, _, _, _, _, _, _, _ => none
 | k + 1, x0, x1, x2, x7, x10, x11, x12, x14, x373000, x373001, x373002 => if (Int.tmod x14 3) = 0 then (endonymlaw4_TrieCut.j3 k x0 x1 x2 x7 x10 x11 x12 x14 (decide (x373000 > x11)) x373000 x373001 x373002) else (endonymlaw4_TrieCut.j3 k x0 x1 x2 x7 x10 x11 x12 x14 false x373000 x373001 x373002)
def endonymlaw4_TrieCut.j3 : Nat → List (S35) → Int → List Int → List (S57) → List (S35) → Int → Int → Int → Bool → Int → Int → Int → Option (Bool)
 | 0, _, _, _, _, _, _, _, _, _, _, _, _ => none
 | k + 1, x0, x1, x2, x7, x10, x11, x12, x14, x72, x373000, x373001, x373002 => if x72 = true then (if (wrap64 (x373000 - x11)) = 0 then (none) else (if x10.length < 5864062014805 then ((some (x10 ++ [(⟨wrap64 (x11 + (Int.tmod x14 (wrap64 (x373000 - x11)))), wrap64 (x373000 - 1), x1⟩ : S35)] : List (S35))).bind fun y374 => (if x373001 > x373000 then (if (wrap64 (x373001 - x373000)) = 0 then (none) else ((some (([(⟨x373000, wrap64 (x373000 + (Int.tmod x14 (wrap64 (x373001 - x373000)))), x373002⟩ : S35), (⟨wrap64 ((wrap64 (x373000 + (Int.tmod x14 (wrap64 (x373001 - x373000))))) + 1), x373001, x373002⟩ : S35)] : List (S35)) : List (S35))).bind fun y377 => (if y374.length + y377.length < 5864062014805 then (endonymlaw4_TrieCut.l0 k x0 x1 x2 x7 (y374 ++ y377) (wrap64 (x373001 + 1)) (wrap64 (x12 + 1))) else (none)))) else (if y374.length < 5864062014805 then (endonymlaw4_TrieCut.l0 k x0 x1 x2 x7 (y374 ++ [(⟨x373000, x373001, x373002⟩ : S35)]) (wrap64 (x373001 + 1)) (wrap64 (x12 + 1))) else (none)))) else (none))) else (if x373001 > x373000 then (if (wrap64 (x373001 - x373000)) = 0 then (none) else ((some (([(⟨x373000, wrap64 (x373000 + (Int.tmod x14 (wrap64 (x373001 - x373000)))), x373002⟩ : S35), (⟨wrap64 ((wrap64 (x373000 + (Int.tmod x14 (wrap64 (x373001 - x373000))))) + 1), x373001, x373002⟩ : S35)] : List (S35)) : List (S35))).bind fun y386 => (if x10.length + y386.length < 5864062014805 then (endonymlaw4_TrieCut.l0 k x0 x1 x2 x7 (x10 ++ y386) (wrap64 (x373001 + 1)) (wrap64 (x12 + 1))) else (none)))) else (if x10.length < 5864062014805 then (endonymlaw4_TrieCut.l0 k x0 x1 x2 x7 (x10 ++ [(⟨x373000, x373001, x373002⟩ : S35)]) (wrap64 (x373001 + 1)) (wrap64 (x12 + 1))) else (none)))
def endonymlaw4_TrieCut.j4 : Nat → List (S57) → List (S57) → Bool → Option (Bool)
 | 0, _, _, _ => none
 | k + 1, x7, x16, x164 => if x164 = true then (some false) else ((trie_Trie_Index.f x7).bind fun t411 => ((trie_Trie_Index.f x16).bind fun t414 => (endonymlaw4_TrieCut.l1 k t411 t414 0)))
def endonymlaw4_TrieCut.l1 : Nat → List Int → List Int → Int → Option (Bool)
 | 0, _, _, _ => none
 | k + 1, x19, x20, x21 => if x21 < (x19.length : Int) then (if 0 ≤ x21 then (if x21 < (x20.length : Int) then (if (rd x19 x21) = (rd x20 x21) then (endonymlaw4_TrieCut.l1 k x19 x20 (wrap64 (x21 + 1))) else (some false)) else (none)) else (none)) else (some true)
end
def endonymlaw4_TrieCut.f (k : Nat) (l0 : List (S35)) (a1 : Int) (l2 : List Int) : Option (Bool) := (endonymlaw4_few.f l0).bind fun bt359 => ((trie_Build.f k bt359.2 a1).bind fun bt365 => (if bt365.2.2 = 0 then (endonymlaw4_TrieCut.j0 k bt359.2 a1 l2 bt365.1 bt365.2.2 (bt365.1.isEmpty)) else (endonymlaw4_TrieCut.j0 k bt359.2 a1 l2 bt365.1 bt365.2.2 true)))
theorem endonymlaw4_TrieCut.mono_l : ∀ k, (∀ y0 y1 y2 y3 y4 y5, LeO (endonymlaw4_TrieCut.j0 k y0 y1 y2 y3 y4 y5) (endonymlaw4_TrieCut.j0 (k + 1) y0 y1 y2 y3 y4 y5)) ∧ (∀ y0 y1 y2 y3 y4 y5 y6, LeO (endonymlaw4_TrieCut.l0 k y0 y1 y2 y3 y4 y5 y6) (endonymlaw4_TrieCut.l0 (k + 1) y0 y1 y2 y3 y4 y5 y6)) ∧ (∀ y0 y1 y2 y3 y4 y5 y6 y7 y8 y9 y10, LeO (endonymlaw4_TrieCut.j2 k y0 y1 y2 y3 y4 y5 y6 y7 y8 y9 y10) (endonymlaw4_TrieCut.j2 (k + 1) y0 y1 y2 y3 y4 y5 y6 y7 y8 y9 y10)) ∧ (∀ y0 y1 y2 y3 y4 y5 y6 y7 y8 y9 y10 y11, LeO (endonymlaw4_TrieCut.j3 k y0 y1 y2 y3 y4 y5 y6 y7 y8 y9 y10 y11) (endonymlaw4_TrieCut.j3 (k + 1) y0 y1 y2 y3 y4 y5 y6 y7 y8 y9 y10 y11)) ∧ (∀ y0 y1 y2, LeO (endonymlaw4_TrieCut.j4 k y0 y1 y2) (endonymlaw4_TrieCut.j4 (k + 1) y0 y1 y2)) ∧ (∀ y0 y1 y2, LeO (endonymlaw4_TrieCut.l1 k y0 y1 y2) (endonymlaw4_TrieCut.l1 (k + 1) y0 y1 y2))
 | 0 => ⟨fun _ _ _ _ _ _ r h => by simp [endonymlaw4_TrieCut.j0] at h, fun _ _ _ _ _ _ _ r h => by simp [endonymlaw4_TrieCut.l0] at h, fun _ _ _ _ _ _ _ _ _ _ _ r h => by simp [endonymlaw4_TrieCut.j2] at h, fun _ _ _ _ _ _ _ _ _ _ _ _ r h => by simp [endonymlaw4_TrieCut.j3] at h, fun _ _ _ r h => by simp [endonymlaw4_TrieCut.j4] at h, fun _ _ _ r h => by simp [endonymlaw4_TrieCut.l1] at h⟩
 | k + 1 => by
  obtain ⟨ih0, ih1, ih2, ih3, ih4, ih5⟩ := endonymlaw4_TrieCut.mono_l k
  refine ⟨?_, ?_, ?_, ?_, ?_, ?_⟩
  ·intro y0 y1 y2 y3 y4 y5
   unfold endonymlaw4_TrieCut.j0
   repeat' first
   | (with_reducible exact ih0 _ _ _ _ _ _)
   | (with_reducible exact ih1 _ _ _ _ _ _ _)
   | (with_reducible exact ih2 _ _ _ _ _ _ _ _ _ _ _)
   | (with_reducible exact ih3 _ _ _ _ _ _ _ _ _ _ _ _)
   | (with_reducible exact ih4 _ _ _)
   | (with_reducible exact ih5 _ _ _)
   | (with_reducible exact endonymlaw4_told.mono _)
   | (with_reducible exact endonymref4_Same.mono _ _ _)
   | (with_reducible exact trie_Build.mono _ _ _)
   | (with_reducible exact trie_Trie_Ranges.mono _ _)
   | (with_reducible exact trie_Trie_Same.mono _ _ _)
   | (with_reducible exact LeO.refl _)
   | (with_reducible exact LeO.none _)
   | (with_reducible refine LeO.ite ?_ ?_)
   | (with_reducible refine LeO.bind ?_ (fun _ => ?_))
   | exact ih0 _ _ _ _ _ _
   | exact ih1 _ _ _ _ _ _ _
   | exact ih2 _ _ _ _ _ _ _ _ _ _ _
   | exact ih3 _ _ _ _ _ _ _ _ _ _ _ _
   | exact ih4 _ _ _
   | exact ih5 _ _ _
   | exact endonymlaw4_told.mono _
   | exact endonymref4_Same.mono _ _ _
   | exact trie_Build.mono _ _ _
   | exact trie_Trie_Ranges.mono _ _
   | exact trie_Trie_Same.mono _ _ _
   | exact LeO.none _
   | refine LeO.ite ?_ ?_
   | refine LeO.bind ?_ (fun _ => ?_)
  ·intro y0 y1 y2 y3 y4 y5 y6
   unfold endonymlaw4_TrieCut.l0
   repeat' first
   | (with_reducible exact ih0 _ _ _ _ _ _)
   | (with_reducible exact ih1 _ _ _ _ _ _ _)
   | (with_reducible exact ih2 _ _ _ _ _ _ _ _ _ _ _)
   | (with_reducible exact ih3 _ _ _ _ _ _ _ _ _ _ _ _)
   | (with_reducible exact ih4 _ _ _)
   | (with_reducible exact ih5 _ _ _)
   | (with_reducible exact endonymlaw4_told.mono _)
   | (with_reducible exact endonymref4_Same.mono _ _ _)
   | (with_reducible exact trie_Build.mono _ _ _)
   | (with_reducible exact trie_Trie_Ranges.mono _ _)
   | (with_reducible exact trie_Trie_Same.mono _ _ _)
   | (with_reducible exact LeO.refl _)
   | (with_reducible exact LeO.none _)
   | (with_reducible refine LeO.ite ?_ ?_)
   | (with_reducible refine LeO.bind ?_ (fun _ => ?_))
   | exact ih0 _ _ _ _ _ _
   | exact ih1 _ _ _ _ _ _ _
   | exact ih2 _ _ _ _ _ _ _ _ _ _ _
   | exact ih3 _ _ _ _ _ _ _ _ _ _ _ _
   | exact ih4 _ _ _
   | exact ih5 _ _ _
   | exact endonymlaw4_told.mono _
   | exact endonymref4_Same.mono _ _ _
   | exact trie_Build.mono _ _ _
   | exact trie_Trie_Ranges.mono _ _
   | exact trie_Trie_Same.mono _ _ _
   | exact LeO.none _
   | refine LeO.ite ?_ ?_
   | refine LeO.bind ?_ (fun _ => ?_)
  ·intro y0 y1 y2 y3 y4 y5 y6 y7 y8 y9 y10
   unfold endonymlaw4_TrieCut.j2
   repeat' first
   | (with_reducible exact ih0 _ _ _ _ _ _)
   | (with_reducible exact ih1 _ _ _ _ _ _ _)
   | (with_reducible exact ih2 _ _ _ _ _ _ _ _ _ _ _)
   | (with_reducible exact ih3 _ _ _ _ _ _ _ _ _ _ _ _)
   | (with_reducible exact ih4 _ _ _)
   | (with_reducible exact ih5 _ _ _)
   | (with_reducible exact endonymlaw4_told.mono _)
   | (with_reducible exact endonymref4_Same.mono _ _ _)
   | (with_reducible exact trie_Build.mono _ _ _)
   | (with_reducible exact trie_Trie_Ranges.mono _ _)
   | (with_reducible exact trie_Trie_Same.mono _ _ _)
   | (with_reducible exact LeO.refl _)
   | (with_reducible exact LeO.none _)
   | (with_reducible refine LeO.ite ?_ ?_)
   | (with_reducible refine LeO.bind ?_ (fun _ => ?_))
   | exact ih0 _ _ _ _ _ _
   | exact ih1 _ _ _ _ _ _ _
   | exact ih2 _ _ _ _ _ _ _ _ _ _ _
   | exact ih3 _ _ _ _ _ _ _ _ _ _ _ _
   | exact ih4 _ _ _
   | exact ih5 _ _ _
   | exact endonymlaw4_told.mono _
   | exact endonymref4_Same.mono _ _ _
   | exact trie_Build.mono _ _ _
   | exact trie_Trie_Ranges.mono _ _
   | exact trie_Trie_Same.mono _ _ _
   | exact LeO.none _
   | refine LeO.ite ?_ ?_
   | refine LeO.bind ?_ (fun _ => ?_)
  ·intro y0 y1 y2 y3 y4 y5 y6 y7 y8 y9 y10 y11
   unfold endonymlaw4_TrieCut.j3
   repeat' first
   | (with_reducible exact ih0 _ _ _ _ _ _)
   | (with_reducible exact ih1 _ _ _ _ _ _ _)
   | (with_reducible exact ih2 _ _ _ _ _ _ _ _ _ _ _)
   | (with_reducible exact ih3 _ _ _ _ _ _ _ _ _ _ _ _)
   | (with_reducible exact ih4 _ _ _)
   | (with_reducible exact ih5 _ _ _)
   | (with_reducible exact endonymlaw4_told.mono _)
   | (with_reducible exact endonymref4_Same.mono _ _ _)
   | (with_reducible exact trie_Build.mono _ _ _)
   | (with_reducible exact trie_Trie_Ranges.mono _ _)
   | (with_reducible exact trie_Trie_Same.mono _ _ _)
   | (with_reducible exact LeO.refl _)
   | (with_reducible exact LeO.none _)
   | (with_reducible refine LeO.ite ?_ ?_)
   | (with_reducible refine LeO.bind ?_ (fun _ => ?_))
   | exact ih0 _ _ _ _ _ _
   | exact ih1 _ _ _ _ _ _ _
   | exact ih2 _ _ _ _ _ _ _ _ _ _ _
   | exact ih3 _ _ _ _ _ _ _ _ _ _ _ _
   | exact ih4 _ _ _
   | exact ih5 _ _ _
   | exact endonymlaw4_told.mono _
   | exact endonymref4_Same.mono _ _ _
   | exact trie_Build.mono _ _ _
   | exact trie_Trie_Ranges.mono _ _
   | exact trie_Trie_Same.mono _ _ _
   | exact LeO.none _
   | refine LeO.ite ?_ ?_
   | refine LeO.bind ?_ (fun _ => ?_)
  ·intro y0 y1 y2
   unfold endonymlaw4_TrieCut.j4
   repeat' first
   | (with_reducible exact ih0 _ _ _ _ _ _)
   | (with_reducible exact ih1 _ _ _ _ _ _ _)
   | (with_reducible exact ih2 _ _ _ _ _ _ _ _ _ _ _)
   | (with_reducible exact ih3 _ _ _ _ _ _ _ _ _ _ _ _)
   | (with_reducible exact ih4 _ _ _)
   | (with_reducible exact ih5 _ _ _)
   | (with_reducible exact endonymlaw4_told.mono _)
   | (with_reducible exact endonymref4_Same.mono _ _ _)
   | (with_reducible exact trie_Build.mono _ _ _)
   | (with_reducible exact trie_Trie_Ranges.mono _ _)
   | (with_reducible exact trie_Trie_Same.mono _ _ _)
   | (with_reducible exact LeO.refl _)
   | (with_reducible exact LeO.none _)
   | (with_reducible refine LeO.ite ?_ ?_)
   | (with_reducible refine LeO.bind ?_ (fun _ => ?_))
   | exact ih0 _ _ _ _ _ _
   | exact ih1 _ _ _ _ _ _ _
   | exact ih2 _ _ _ _ _ _ _ _ _ _ _
   | exact ih3 _ _ _ _ _ _ _ _ _ _ _ _
   | exact ih4 _ _ _
   | exact ih5 _ _ _
   | exact endonymlaw4_told.mono _
   | exact endonymref4_Same.mono _ _ _
   | exact trie_Build.mono _ _ _
   | exact trie_Trie_Ranges.mono _ _
   | exact trie_Trie_Same.mono _ _ _
   | exact LeO.none _
   | refine LeO.ite ?_ ?_
   | refine LeO.bind ?_ (fun _ => ?_)
  ·intro y0 y1 y2
   unfold endonymlaw4_TrieCut.l1
   repeat' first
   | (with_reducible exact ih0 _ _ _ _ _ _)
   | (with_reducible exact ih1 _ _ _ _ _ _ _)
   | (with_reducible exact ih2 _ _ _ _ _ _ _ _ _ _ _)
   | (with_reducible exact ih3 _ _ _ _ _ _ _ _ _ _ _ _)
   | (with_reducible exact ih4 _ _ _)
   | (with_reducible exact ih5 _ _ _)
   | (with_reducible exact endonymlaw4_told.mono _)
   | (with_reducible exact endonymref4_Same.mono _ _ _)
   | (with_reducible exact trie_Build.mono _ _ _)
   | (with_reducible exact trie_Trie_Ranges.mono _ _)
   | (with_reducible exact trie_Trie_Same.mono _ _ _)
   | (with_reducible exact LeO.refl _)
   | (with_reducible exact LeO.none _)
   | (with_reducible refine LeO.ite ?_ ?_)
   | (with_reducible refine LeO.bind ?_ (fun _ => ?_))
   | exact ih0 _ _ _ _ _ _
   | exact ih1 _ _ _ _ _ _ _
   | exact ih2 _ _ _ _ _ _ _ _ _ _ _
   | exact ih3 _ _ _ _ _ _ _ _ _ _ _ _
   | exact ih4 _ _ _
   | exact ih5 _ _ _
   | exact endonymlaw4_told.mono _
   | exact endonymref4_Same.mono _ _ _
   | exact trie_Build.mono _ _ _
   | exact trie_Trie_Ranges.mono _ _
   | exact trie_Trie_Same.mono _ _ _
   | exact LeO.none _
   | refine LeO.ite ?_ ?_
   | refine LeO.bind ?_ (fun _ => ?_)
theorem endonymlaw4_TrieCut.mono : ∀ a0 a1 a2 k, LeO (endonymlaw4_TrieCut.f k a0 a1 a2) (endonymlaw4_TrieCut.f (k + 1) a0 a1 a2) := by
 intro a0 a1 a2 k
 obtain ⟨ih0, ih1, ih2, ih3, ih4, ih5⟩ := endonymlaw4_TrieCut.mono_l k
 unfold endonymlaw4_TrieCut.f
 repeat' first
   | (with_reducible exact ih0 _ _ _ _ _ _)
   | (with_reducible exact ih1 _ _ _ _ _ _ _)
   | (with_reducible exact ih2 _ _ _ _ _ _ _ _ _ _ _)
   | (with_reducible exact ih3 _ _ _ _ _ _ _ _ _ _ _ _)
   | (with_reducible exact ih4 _ _ _)
   | (with_reducible exact ih5 _ _ _)
   | (with_reducible exact endonymlaw4_told.mono _)
   | (with_reducible exact endonymref4_Same.mono _ _ _)
   | (with_reducible exact trie_Build.mono _ _ _)
   | (with_reducible exact trie_Trie_Ranges.mono _ _)
   | (with_reducible exact trie_Trie_Same.mono _ _ _)
   | (with_reducible exact LeO.refl _)
   | (with_reducible exact LeO.none _)
   | (with_reducible refine LeO.ite ?_ ?_)
   | (with_reducible refine LeO.bind ?_ (fun _ => ?_))
   | exact ih0 _ _ _ _ _ _
   | exact ih1 _ _ _ _ _ _ _
   | exact ih2 _ _ _ _ _ _ _ _ _ _ _
   | exact ih3 _ _ _ _ _ _ _ _ _ _ _ _
   | exact ih4 _ _ _
   | exact ih5 _ _ _
   | exact endonymlaw4_told.mono _
   | exact endonymref4_Same.mono _ _ _
   | exact trie_Build.mono _ _ _
   | exact trie_Trie_Ranges.mono _ _
   | exact trie_Trie_Same.mono _ _ _
   | exact LeO.none _
   | refine LeO.ite ?_ ?_
   | refine LeO.bind ?_ (fun _ => ?_)
theorem endonymlaw4_TrieCut.j4_no {k : Nat} {y7 : List (S57)} {y16 : List (S57)} (h : endonymlaw4_TrieCut.j4 k y7 y16 true = some true) : False := by
 cases k with
 | zero => simp [endonymlaw4_TrieCut.j4] at h
 | succ k => rw [endonymlaw4_TrieCut.j4, if_pos rfl] at h; cases h
def endonymlaw4_TrieCut.T15 : Bool × List (List Nat × List Nat) := (true, [([], []), ([], []), ([], []), ([], []), ([3], [3]), ([], []), ([4, 5], [4, 5]), ([2, 6], [2, 6]), ([1, 7], [1, 7]), ([], []), ([9], [9]), ([10], [10]), ([], []), ([8, 11, 12], [8, 11, 12]), ([13], [13]), ([0, 14], [0, 14]), ([15, 15, 0, 1, 2, 3, 4, 5, 6, 7, 8, 9, 10, 11, 12, 13, 14, 15], [0, 15])])
def endonymlaw4_TrieCut.B15 : List Nat := [0, 0, 0, 0, 8, 0, 56, 124, 254, 0, 512, 1536, 0, 8190, 16382, 32767, 65535]
theorem endonymlaw4_TrieCut.tab15 : rtab .any (opsOf Try.f6 15) = endonymlaw4_TrieCut.T15 := by kernel_rfl
theorem endonymlaw4_TrieCut.bits15 : waitsOk endonymlaw4_TrieCut.T15.2 endonymlaw4_TrieCut.B15 = true := by kernel_rfl
def endonymlaw4_TrieCut.T17 : Bool × List (List Nat × List Nat) := (true, [([], []), ([0], [0]), ([], []), ([], []), ([3], [3]), ([], []), ([5], [5]), ([4, 6], [4, 6]), ([2, 7], [2, 7]), ([1, 8], [1, 8]), ([9, 0, 1, 2, 3, 4, 5, 6, 7, 8, 9], [9])])
def endonymlaw4_TrieCut.B17 : List Nat := [0, 1, 0, 0, 8, 0, 32, 120, 252, 511, 1023]
theorem endonymlaw4_TrieCut.tab17 : rtab .any (opsOf Try.f6 17) = endonymlaw4_TrieCut.T17 := by kernel_rfl
theorem endonymlaw4_TrieCut.bits17 : waitsOk endonymlaw4_TrieCut.T17.2 endonymlaw4_TrieCut.B17 = true := by kernel_rfl
def endonymlaw4_TrieCut.T28 : Bool × List (List Nat × List Nat) := (true, [([], []), ([], []), ([0, 1], [0, 1]), ([2], [2]), ([], []), ([], []), ([4, 5], [4, 5]), ([6], [6]), ([3, 7], [3, 7])])
def endonymlaw4_TrieCut.B28 : List Nat := [0, 0, 3, 7, 0, 0, 48, 112, 255]
theorem endonymlaw4_TrieCut.tab28 : rtab .any (opsOf Try.f6 28) = endonymlaw4_TrieCut.T28 := by kernel_rfl
theorem endonymlaw4_TrieCut.bits28 : waitsOk endonymlaw4_TrieCut.T28.2 endonymlaw4_TrieCut.B28 = true := by kernel_rfl
set_option maxHeartbeats 400000000 in
set_option maxRecDepth 100000 in
theorem endonymlaw4_TrieCut.calls (k : Nat) (A0 : Option Addr) (c0 : Nat) (l0 : List (S35)) (a1 : Int) (A2 : Option Addr) (c2 : Nat) (l2 : List Int) (w : World) (hr0 : Kd.C k35 w A0 l0.length l0) (hc0 : l0.length ≤ c0) (hr2 : Kd.C (Kd.int .i64) w A2 l2.length l2) (hc2 : l2.length ≤ c2) (h : endonymlaw4_TrieCut.f k l0 a1 l2 = some true) :
  Calls Try.prog 6 #[.slice A0 l0.length c0, .int .i64 a1, .slice A2 l2.length c2] w fun e w' => e = .returned (.bool true) ∧ Below w.heap.size w w' := by
 have hu35 := Try.underlying35
 have HR0 := Aside0.mk hr0
 have HC0 := Aside0.mk hc0
 clear hr0 hc0
 have HR2 := Aside0.mk hr2
 have HC2 := Aside0.mk hc2
 clear hr2 hc2
 have HB := Aside0.mk (Below.refl w.heap.size w)
 have H : ((endonymlaw4_few.f l0).bind fun bt359 => ((trie_Build.f k bt359.2 a1).bind fun bt365 => (if bt365.2.2 = 0 then (endonymlaw4_TrieCut.j0 k bt359.2 a1 l2 bt365.1 bt365.2.2 (bt365.1.isEmpty)) else (endonymlaw4_TrieCut.j0 k bt359.2 a1 l2 bt365.1 bt365.2.2 true)))) = some true := h
 clear h
 replace H := Option.bind_eq_some_iff.mp H
 obtain ⟨⟨t359, t360⟩, A40, H⟩ := H
 replace H : ((trie_Build.f k t360 a1).bind fun bt365 => (if bt365.2.2 = 0 then (endonymlaw4_TrieCut.j0 k t360 a1 l2 bt365.1 bt365.2.2 (bt365.1.isEmpty)) else (endonymlaw4_TrieCut.j0 k t360 a1 l2 bt365.1 bt365.2.2 true))) = some true := H
 have A4 := Aside0.mk A40
 clear A40
 replace H := Option.bind_eq_some_iff.mp H
 obtain ⟨⟨t365, t366, t367⟩, A50, H⟩ := H
 replace H : (if t367 = 0 then (endonymlaw4_TrieCut.j0 k t360 a1 l2 t365 t367 (t365.isEmpty)) else (endonymlaw4_TrieCut.j0 k t360 a1 l2 t365 t367 true)) = some true := H
 have A5 := Aside0.mk A50
 clear A50
 have HC6 := Aside0.mk H
 clear H
 go_enter Try.func6, Try.ntmps6
 go_upto_region 3 with (first | ((with_reducible refine gate_callee (f := 8) rfl ?_); refine goesL_ (some 24) rfl rfl Try.func8 (by kernel_rfl) rfl #[.slice A0 l0.length c0] rfl (by (try simp only [List.map_toArray, List.map_cons, List.map_nil]); first | done | rfl | (simp only [List.length_drop, List.length_take]; rfl)) ?_; (with_reducible refine (endonymlaw4_few.calls _ _ l0 t359 t360 _ ?side1 ?side2 A4.out).mono ?_); (case side1 => repeat (first | exact HR0.out | (with_reducible refine Kd.C_alloc ?_ _) | (with_reducible refine Kd.C_drewN ?_ _) | (with_reducible refine Kd.C_drew ?_))); (case side2 => exact HC0.out); rintro e w7 ⟨v361, v363, rfl, ho0, ho1, hb⟩; refine ⟨_, rfl, ?_⟩; have n0_ := Aside0.mk (Kd.R_lower ho0 (below_size (by repeat (first | (with_reducible first | exact HB.out | apply below_alloc | apply pw_below_drewN | apply below_drew1) | exact HB.out)))); have n1_ := Aside0.mk (Kd.R_lower ho1 (below_size (by repeat (first | (with_reducible first | exact HB.out | apply below_alloc | apply pw_below_drewN | apply below_drew1) | exact HB.out)))); have n2_ := Aside0.mk (below_step (by repeat (first | (with_reducible first | exact HB.out | apply below_alloc | apply pw_below_drewN | apply below_drew1) | exact HB.out)) hb); clear HB; have HO362 := n0_; have HO364 := n1_; have HB := n2_; clear n0_ n1_ n2_; (try clear hb); (try clear hb2); (try clear hk); (try clear hi); (try clear ho0); (try clear ho1); obtain ⟨Ao8, co8, eo8⟩ := Kd.R_slice HO364.out; subst eo8) | ((with_reducible refine gate_callee (f := 9) rfl ?_); refine goesL_ (some 30) rfl rfl Try.func9 (by kernel_rfl) rfl #[.slice Ao8 t360.length co8, .int .i64 a1] rfl (by (try simp only [List.map_toArray, List.map_cons, List.map_nil]); first | done | rfl | (simp only [List.length_drop, List.length_take]; rfl)) ?_; (with_reducible refine (trie_Build.calls k _ _ t360 a1 t365 t366 t367 _ ?side1 ?side2 A5.out).mono ?_); (case side1 => repeat (first | exact (Kd.R_reads' HO364.out).2.2 | (with_reducible refine Kd.C_alloc ?_ _) | (with_reducible refine Kd.C_drewN ?_ _) | (with_reducible refine Kd.C_drew ?_))); (case side2 => exact (Kd.R_reads' HO364.out).2.1); rintro e w9 ⟨v368, rfl, ho0, hb⟩; refine ⟨_, rfl, ?_⟩; have n0_ := Aside0.mk (Kd.R_below (by (with_reducible repeat (first | apply Kd.R_alloc | apply Kd.R_drewN | apply Kd.R_drew)); first | exact HO362.out | exact Kd.R_mono HO362.out (fun _ hk => (by first | exact hk | exact fun e_ => hk (e_.trans (own_len _ _ _ _ _))))) hb); have n1_ := Aside0.mk (Kd.R_below (by (with_reducible repeat (first | apply Kd.R_alloc | apply Kd.R_drewN | apply Kd.R_drew)); first | exact HO364.out | exact Kd.R_mono HO364.out (fun _ hk => (by first | exact hk | exact fun e_ => hk (e_.trans (own_len _ _ _ _ _))))) hb); have n2_ := Aside0.mk (Kd.P_lower ho0 (below_size (by repeat (first | (with_reducible first | exact HB.out | apply below_alloc | apply pw_below_drewN | apply below_drew1) | exact HB.out)))); have n3_ := Aside0.mk (below_step (by repeat (first | (with_reducible first | exact HB.out | apply below_alloc | apply pw_below_drewN | apply below_drew1) | exact HB.out)) hb); clear HO362; clear HO364; clear HB; have HO362 := n0_; have HO364 := n1_; have HO369 := n2_; have HB := n3_; clear n0_ n1_ n2_ n3_; (try clear hb); (try clear hb2); (try clear hk); (try clear hi); (try clear ho0)))
 (try simp only [Act.put, List.setIfInBounds_toArray, List.set_cons_zero, List.set_cons_succ])
 go_cut [39] (fun v39 wc => ∃ (kq : Nat) (x39_5 : Bool), v39 = .bool x39_5 ∧ Aside0 (endonymlaw4_TrieCut.j0 kq t360 a1 l2 t365 t367 x39_5 = some true) ∧ Aside0 (kq ≤ k) ∧ Aside0 (Kd.R k35 35 wc w.heap.size (fun _ => True) (.slice Ao8 t360.length co8) t360) ∧ Aside0 (Kd.P k57 57 wc w.heap.size (fun _ => True) v368 t365) ∧ Aside0 (Below w.heap.size w wc))
 case first =>
  have H := HC6.out
  clear HC6
  by_cases c10 : t367 = 0
  ·rw [if_pos c10] at H
   have c10b0 : (t367 == 0) = true := beq_iff_eq.mpr c10
   have c10b1 : (t367 != 0) = false := bne_eq_false_iff_eq.mpr c10
   clear c10
   (first | rw [c10b0] | (simp only [i64_w, i32_w]; rw [c10b0]) | skip)
   have H' := Aside0.mk H
   clear H
   obtain ⟨Ao11, co11, eo11⟩ := Kd.P_slice HO369.out
   subst eo11
   have hz12 := Kd.PC_isNone ((Kd.P_reads' HO369.out).2.2)
   go_wp2
   go_meet
   case rel => exact ⟨_, ((t365.isEmpty)), (by first | rfl | (simp; done) | (simp [*]; done)), H', ⟨by first | omega | exact Nat.le_refl _⟩, ⟨by (with_reducible repeat (first | apply Kd.R_alloc | apply Kd.R_drewN | apply Kd.R_drew)); exact Kd.R_mono HO364.out (fun _ hk => trivial)⟩, ⟨by (with_reducible repeat (first | apply Kd.P_alloc | apply Kd.P_drewN | apply Kd.P_drew)); exact HO369.out⟩, ⟨by repeat (first | (with_reducible first | exact HB.out | apply below_alloc | apply pw_below_drewN | apply below_drew1) | exact HB.out)⟩⟩
  ·rw [if_neg c10] at H
   have c10b0 : (t367 == 0) = false := beq_eq_false_iff_ne.mpr c10
   have c10b1 : (t367 != 0) = true := bne_iff_ne.mpr c10
   (first | rw [c10b0] | (simp only [i64_w, i32_w]; rw [c10b0]) | skip)
   have H' := Aside0.mk H
   clear H
   go_wp2
   go_meet
   case rel => exact ⟨_, (true), (by first | rfl | (simp; done) | (simp [*]; done)), H', ⟨by first | omega | exact Nat.le_refl _⟩, ⟨by (with_reducible repeat (first | apply Kd.R_alloc | apply Kd.R_drewN | apply Kd.R_drew)); exact Kd.R_mono HO364.out (fun _ hk => trivial)⟩, ⟨by (with_reducible repeat (first | apply Kd.P_alloc | apply Kd.P_drewN | apply Kd.P_drew)); exact HO369.out⟩, ⟨by repeat (first | (with_reducible first | exact HB.out | apply below_alloc | apply pw_below_drewN | apply below_drew1) | exact HB.out)⟩⟩
 case rest =>
  clear HC6
  (try clear c1); (try clear c2); (try clear p2); (try clear c6); (try clear c8); (try clear c9); (try clear c10); (try clear c10b0); (try clear c10b1)
  obtain ⟨kq, x39_5, rfl, HA, HJ5, HO_0, HO_7, HB⟩ := hcut
  cases kq with
  | zero => exact absurd HA.out (by simp [endonymlaw4_TrieCut.j0])
  | succ kj5 =>
   have H := HA.out
   clear HA
   simp only [endonymlaw4_TrieCut.j0] at H
   by_cases c13 : x39_5 = true
   ·subst c13
    have H1 : ((endonymlaw4_told.f kj5).bind fun t370 => (if t370 = true then (some (t367 != 0)) else (some false))) = some true := by rw [if_pos rfl] at H; exact H
    clear H
    have H := H1
    clear H1
    replace H := Option.bind_eq_some_iff.mp H
    obtain ⟨t370, A140, H⟩ := H
    replace H : (if t370 = true then (some (t367 != 0)) else (some false)) = some true := H
    have A14 := Aside0.mk A140
    clear A140
    by_cases c15 : t370 = true
    ·subst c15
     have H1 : (some (t367 != 0)) = some true := by rw [if_pos rfl] at H; exact H
     clear H
     have H := H1
     clear H1
     have hR_ := Option.some.inj H
     go_wp2_with (first | ((with_reducible refine gate_callee (f := 11) rfl ?_); refine goesL_ (some 40) rfl rfl Try.func11 (by kernel_rfl) rfl #[] rfl (by (try simp only [List.map_toArray, List.map_cons, List.map_nil]); first | done | rfl | (simp only [List.length_drop, List.length_take]; rfl)) ?_; (with_reducible refine (endonymlaw4_told.calls kj5  true _ A14.out).mono ?_); rintro e w16 ⟨rfl, hb⟩; refine ⟨_, rfl, ?_⟩; have n0_ := Aside0.mk (Kd.R_below (by (with_reducible repeat (first | apply Kd.R_alloc | apply Kd.R_drewN | apply Kd.R_drew)); exact HO_0.out) hb); have n1_ := Aside0.mk (Kd.P_below (by (with_reducible repeat (first | apply Kd.P_alloc | apply Kd.P_drewN | apply Kd.P_drew)); exact HO_7.out) hb); have n2_ := Aside0.mk (below_step (by repeat (first | (with_reducible first | exact HB.out | apply below_alloc | apply pw_below_drewN | apply below_drew1) | exact HB.out)) hb); clear HO_0; clear HO_7; clear HB; have HO_0 := n0_; have HO_7 := n1_; have HB := n2_; clear n0_ n1_ n2_; (try clear hb); (try clear hb2); (try clear hk); (try clear hi)))
     go_ret
     exact ⟨by first | rfl | (rw [← hR_]; first | rfl | (simp only [hR_]; rfl)) | (simp only [hR_]; rfl) | (simp only [hR_]; done) | (simp [errW_none, errW_some] <;> rfl) | (simp [*, errW_none, errW_some] <;> rfl), by repeat (first | (with_reducible first | exact HB.out | apply below_alloc | apply pw_below_drewN | apply below_drew1) | exact HB.out)⟩
    ·replace c15 := Bool.eq_false_iff.mpr c15
     subst c15
     have H1 : (some false) = some true := by rw [if_neg (show ¬ (false = true) by decide)] at H; exact H
     clear H
     have H := H1
     clear H1
     exact absurd H (by simp)
   ·replace c13 := Bool.eq_false_iff.mpr c13
    subst c13
    have H1 : (endonymlaw4_TrieCut.l0 kj5 t360 a1 l2 t365 ([] : List (S35)) 0 0) = some true := by rw [if_neg (show ¬ (false = true) by decide)] at H; exact H
    clear H
    have H := H1
    clear H1
    have H' := Aside0.mk H
    clear H
    go_wp2
    go_loopg [10, 11, 12] kj5 (fun kq v10 v11 v12 w' => ∃ (x10_2 : List (S35)) (x11_2 : Int) (x12_2 : Int), v11 = .int .i64 x11_2 ∧ v12 = .int .i64 x12_2 ∧ Aside0 (endonymlaw4_TrieCut.l0 kq t360 a1 l2 t365 x10_2 x11_2 x12_2 = some true) ∧ Aside0 (kq ≤ kj5) ∧ Aside0 (Kd.R k35 35 w' w.heap.size (fun k_ => some k_ ≠ (v10 : Value).ownBlock) (.slice Ao8 t360.length co8) t360) ∧ Aside0 (Kd.P k57 57 w' w.heap.size (fun _ => True) v368 t365) ∧ Aside0 (Kd.R k35 35 w' w.heap.size (fun k_ => some k_ ≠ ((.slice Ao8 t360.length co8) : Value).ownBlock) v10 x10_2) ∧ Aside0 (Below w.heap.size w w'))
    case atStart => exact ⟨(([] : List (S35))), (0), (0), (by first | rfl | (simp; done) | (simp [*]; done)), (by first | rfl | (simp; done) | (simp [*]; done)), H', ⟨Nat.le_refl _⟩, ⟨by (with_reducible repeat (first | apply Kd.R_alloc | apply Kd.R_drewN | apply Kd.R_drew)); exact Kd.R_mono HO_0.out (fun _ hk => (by simp [Value.ownBlock]))⟩, ⟨by (with_reducible repeat (first | apply Kd.P_alloc | apply Kd.P_drewN | apply Kd.P_drew)); exact HO_7.out⟩, ⟨by first | exact Kd.R_nil _ _ _ _ _ | exact Kd.N_nil _ _ _ _ _ | exact Kd.V_nil _ _ _ _ _ | exact Kd.Q_nil _ _ _ _ _ | exact Kd.S_nil _ _ _ _ _⟩, ⟨by repeat (first | (with_reducible first | exact HB.out | apply below_alloc | apply pw_below_drewN | apply below_drew1) | exact HB.out)⟩⟩
    case round =>
     clear H'
     (try clear c1); (try clear c2); (try clear p2); (try clear c6); (try clear c8); (try clear c9); (try clear c10); (try clear c10b0); (try clear c10b1); (try clear c11); (try clear c13); (try clear c15); (try clear p2)
     obtain ⟨x10_2, x11_2, x12_2, rfl, rfl, HA, HK2, HO_0, HO_7, HO_10, HB⟩ := hrel
     cases gk with
     | zero => exact absurd HA.out (by simp [endonymlaw4_TrieCut.l0])
     | succ k2 =>
      have H := HA.out
      clear HA
      simp only [endonymlaw4_TrieCut.l0] at H
      by_cases c17 : x12_2 < (t360.length : Int)
      ·rw [if_pos c17] at H
       have c17b0 : decide (x12_2 < (t360.length : Int)) = true := decide_eq_true c17
       clear c17
       by_cases c18 : 0 ≤ x12_2
       ·rw [if_pos c18] at H
        have c18b0 : decide (0 ≤ x12_2) = true := decide_eq_true c18
        clear c18
        have HC19 := Aside0.mk H
        clear H
        have p371 : 0 ≤ (x12_2 : Int) := of_decide_eq_true (by first | (with_reducible assumption) | assumption)
        have q371 : x12_2 < (t360.length : Int) := of_decide_eq_true (by first | (with_reducible assumption) | assumption)
        obtain ⟨ad371, e371, hx371_0, hx371_1, hx371_2⟩ := at_T35 (Kd.R_reads' HO_0.out).2.2 x12_2 p371 q371
        cases e371
        replace p371 := eq_true p371
        replace q371 := eq_true q371
        go_upto_if 58 with (first | ((with_reducible refine gate_dst (N := 13) rfl ?_); refine box_event ?hg (N := 13) ?hd (cs := #[.int .i64 0, .int .i64 0, .int .i64 0]) (t := 35) ?hr ?_; (case hd => rfl); (case hg => rfl); (case hr => first | (go_simp; done) | (go_simp; rfl)); intro gb372 hg w20 hbox hb; have n0_ := Aside0.mk (Kd.R_below (Kd.R_elderB (by (with_reducible repeat (first | apply Kd.R_alloc | apply Kd.R_drewN | apply Kd.R_drew)); first | exact HO_0.out | exact Kd.R_mono HO_0.out (fun _ hk => (by first | exact hk | exact fun e_ => hk (e_.trans (own_len _ _ _ _ _))))) gb372 (Nat.le_of_eq hg.symm)) hb); have n1_ := Aside0.mk (Kd.P_below (by (with_reducible repeat (first | apply Kd.P_alloc | apply Kd.P_drewN | apply Kd.P_drew)); exact HO_7.out) hb); have n2_ := Aside0.mk (Kd.R_below (Kd.R_elderB (by (with_reducible repeat (first | apply Kd.R_alloc | apply Kd.R_drewN | apply Kd.R_drew)); first | exact HO_10.out | exact Kd.R_mono HO_10.out (fun _ hk => (by first | exact hk | exact fun e_ => hk (e_.trans (own_len _ _ _ _ _))))) gb372 (Nat.le_of_eq hg.symm)) hb); have n3_ := Aside0.mk (below_step (by repeat (first | (with_reducible first | exact HB.out | apply below_alloc | apply pw_below_drewN | apply below_drew1) | exact HB.out)) hb); have n4_ := Aside0.mk (hbox); have n5_ := Aside0.mk ((by rw [hg]; exact (below_size (by repeat (first | (with_reducible first | exact HB.out | apply below_alloc | apply pw_below_drewN | apply below_drew1) | exact HB.out))) : w.heap.size ≤ gb372)); have n6_ := Aside0.mk ((by rw [hg]; exact (below_size (by repeat (first | (with_reducible first | exact HB.out | apply below_alloc | apply pw_below_drewN | apply below_drew1) | exact HB.out))) : w.heap.size ≤ gb372)); clear HO_0; clear HO_7; clear HO_10; clear HB; have HO_0 := n0_; have HO_7 := n1_; have HO_10 := n2_; have HB := n3_; have BK372 := n4_; have GW372 := n5_; have GE372 := n6_; clear n0_ n1_ n2_ n3_ n4_ n5_ n6_; clear hb hbox hg; have hcz21_0 : w20.cell? ⟨gb372, 0, none⟩ = some (.int .i64 0) := (blk_cell BK372.out 0).trans rfl; have hcz21_1 : w20.cell? ⟨gb372, 1, none⟩ = some (.int .i64 0) := (blk_cell BK372.out 1).trans rfl; have hcz21_2 : w20.cell? ⟨gb372, 2, none⟩ = some (.int .i64 0) := (blk_cell BK372.out 2).trans rfl; have hfz21_0 := blk_frozen BK372.out 0; have hfz21_1 := blk_frozen BK372.out 1; have hfz21_2 := blk_frozen BK372.out 2))
        (try simp only [Act.put, List.setIfInBounds_toArray, List.set_cons_zero, List.set_cons_succ])
        go_cut [14] (fun v14 wc => ∃ (kq : Nat) (x14_18 : Int), v14 = .int .i64 x14_18 ∧ Aside0 (endonymlaw4_TrieCut.j2 kq t360 a1 l2 t365 x10_2 x11_2 x12_2 x14_18 ((rd_T35 t360 x12_2).f0) ((rd_T35 t360 x12_2).f1) ((rd_T35 t360 x12_2).f2) = some true) ∧ Aside0 (kq ≤ k2) ∧ Aside0 (Kd.R k35 35 wc w.heap.size (fun k_ => some k_ ≠ (u10 : Value).ownBlock ∧ k_ ≠ gb372) (.slice (some ad371) t360.length co8) t360) ∧ Aside0 (Kd.P k57 57 wc w.heap.size (fun _ => True) v368 t365) ∧ Aside0 (Kd.R k35 35 wc w.heap.size (fun k_ => some k_ ≠ ((.slice (some ad371) t360.length co8) : Value).ownBlock ∧ k_ ≠ gb372) u10 x10_2) ∧ Aside0 (wc.heap[gb372]? = some (.cells #[.int .i64 ((rd_T35 t360 x12_2).f0), .int .i64 ((rd_T35 t360 x12_2).f1), .int .i64 ((rd_T35 t360 x12_2).f2)] 35 (0, 0))) ∧ Aside0 (Below w.heap.size w wc))
        case first =>
         have H := HC19.out
         clear HC19
         by_cases c22 : x12_2 < (l2.length : Int)
         ·rw [if_pos c22] at H
          have c22b0 : decide (x12_2 < (l2.length : Int)) = true := decide_eq_true c22
          clear c22
          (first | rw [c22b0] | (simp only [i64_w, i32_w]; rw [c22b0]) | skip)
          have H' := Aside0.mk H
          clear H
          have p373 : 0 ≤ (x12_2 : Int) := of_decide_eq_true (by first | (with_reducible assumption) | assumption)
          have q373 : x12_2 < (l2.length : Int) := of_decide_eq_true (by first | (with_reducible assumption) | assumption)
          obtain ⟨ad373, e373, hx373_0⟩ := Kd.at_int HR2.out x12_2 p373 q373
          cases e373
          have hn373_0 : ad373.block ≠ gb372 := Nat.ne_of_lt (Nat.lt_of_lt_of_le (by have := World.block_lt_of_cell? _ _ hx373_0; first | rwa [add_block] at this | exact this) GW372.out)
          have hn373_1 : ad373.block ≠ gb372 := Nat.ne_of_lt (Nat.lt_of_lt_of_le (by have := World.block_lt_of_cell? _ _ hx373_0; first | rwa [add_block] at this | exact this) GW372.out)
          have hn373_2 : ad373.block ≠ gb372 := Nat.ne_of_lt (Nat.lt_of_lt_of_le (by have := World.block_lt_of_cell? _ _ hx373_0; first | rwa [add_block] at this | exact this) GW372.out)
          replace hx373_0 := (HB.out.cell (World.block_lt_of_cell? w _ hx373_0)).trans hx373_0
          replace hx373_0 := (cell_far (p := ⟨gb372, 0, none⟩) (by first | (rw [add_block]; exact hn373_0) | (show (Addr.add _ _).block ≠ _; rw [add_block]; exact hn373_0) | exact hn373_0) (.int .i64 ((rd_T35 t360 x12_2).f0))).trans hx373_0
          replace hx373_0 := (cell_far (p := ⟨gb372, 1, none⟩) (by first | (rw [add_block]; exact hn373_1) | (show (Addr.add _ _).block ≠ _; rw [add_block]; exact hn373_1) | exact hn373_1) (.int .i64 ((rd_T35 t360 x12_2).f1))).trans hx373_0
          replace hx373_0 := (cell_far (p := ⟨gb372, 2, none⟩) (by first | (rw [add_block]; exact hn373_2) | (show (Addr.add _ _).block ≠ _; rw [add_block]; exact hn373_2) | exact hn373_2) (.int .i64 ((rd_T35 t360 x12_2).f2))).trans hx373_0
          clear hn373_0
          clear hn373_1
          clear hn373_2
          replace p373 := eq_true p373
          replace q373 := eq_true q373
          go_wp2
          go_meet
          case rel => exact ⟨_, (Go.bits .and .i64 (rd l2 x12_2) 1073741823), (by first | rfl | (simp; done) | (simp [*]; done)), H', ⟨by have := HJ5.out; have := HK2.out; first | omega | exact Nat.le_refl _⟩, ⟨by (with_reducible repeat (first | apply Kd.R_alloc | apply Kd.R_drewN | apply Kd.R_drew)); first | exact Kd.R_mono (Kd.R_far (p := ⟨gb372, 2, none⟩) (Kd.R_far (p := ⟨gb372, 1, none⟩) (Kd.R_far (p := ⟨gb372, 0, none⟩) (Kd.R_mono HO_0.out (fun k_ hk => (⟨hk, hk.2⟩ : _ ∧ k_ ≠ gb372))) (fun _ hk => hk.2) (.int .i64 ((rd_T35 t360 x12_2).f0))) (fun _ hk => hk.2) (.int .i64 ((rd_T35 t360 x12_2).f1))) (fun _ hk => hk.2) (.int .i64 ((rd_T35 t360 x12_2).f2))) (fun _ hk => ⟨hk.1.1, hk.1.2⟩) | exact Kd.R_mono (Kd.R_far (p := ⟨gb372, 2, none⟩) (Kd.R_far (p := ⟨gb372, 1, none⟩) (Kd.R_far (p := ⟨gb372, 0, none⟩) (Kd.R_mono HO_0.out (fun k_ hk => (⟨hk, hk.2⟩ : _ ∧ k_ ≠ gb372))) (fun _ hk => hk.2) (.int .i64 ((rd_T35 t360 x12_2).f0))) (fun _ hk => hk.2) (.int .i64 ((rd_T35 t360 x12_2).f1))) (fun _ hk => hk.2) (.int .i64 ((rd_T35 t360 x12_2).f2))) (fun _ hk => ⟨(by first | exact hk.1.1 | exact fun e_ => hk.1.1 (e_.trans (own_len _ _ _ _ _))), hk.1.2⟩)⟩, ⟨by (with_reducible repeat (first | apply Kd.P_alloc | apply Kd.P_drewN | apply Kd.P_drew)); exact Kd.P_mono (Kd.P_far (p := ⟨gb372, 2, none⟩) (Kd.P_far (p := ⟨gb372, 1, none⟩) (Kd.P_far (p := ⟨gb372, 0, none⟩) (Kd.P_types HO_7.out BK372.out (by decide)) (fun _ hk => hk.2) (.int .i64 ((rd_T35 t360 x12_2).f0))) (fun _ hk => hk.2) (.int .i64 ((rd_T35 t360 x12_2).f1))) (fun _ hk => hk.2) (.int .i64 ((rd_T35 t360 x12_2).f2))) (fun _ hk => trivial)⟩, ⟨by (with_reducible repeat (first | apply Kd.R_alloc | apply Kd.R_drewN | apply Kd.R_drew)); first | exact Kd.R_mono (Kd.R_far (p := ⟨gb372, 2, none⟩) (Kd.R_far (p := ⟨gb372, 1, none⟩) (Kd.R_far (p := ⟨gb372, 0, none⟩) (Kd.R_mono HO_10.out (fun k_ hk => (⟨hk, hk.2⟩ : _ ∧ k_ ≠ gb372))) (fun _ hk => hk.2) (.int .i64 ((rd_T35 t360 x12_2).f0))) (fun _ hk => hk.2) (.int .i64 ((rd_T35 t360 x12_2).f1))) (fun _ hk => hk.2) (.int .i64 ((rd_T35 t360 x12_2).f2))) (fun _ hk => ⟨hk.1.1, hk.1.2⟩) | exact Kd.R_mono (Kd.R_far (p := ⟨gb372, 2, none⟩) (Kd.R_far (p := ⟨gb372, 1, none⟩) (Kd.R_far (p := ⟨gb372, 0, none⟩) (Kd.R_mono HO_10.out (fun k_ hk => (⟨hk, hk.2⟩ : _ ∧ k_ ≠ gb372))) (fun _ hk => hk.2) (.int .i64 ((rd_T35 t360 x12_2).f0))) (fun _ hk => hk.2) (.int .i64 ((rd_T35 t360 x12_2).f1))) (fun _ hk => hk.2) (.int .i64 ((rd_T35 t360 x12_2).f2))) (fun _ hk => ⟨(by first | exact hk.1.1 | exact fun e_ => hk.1.1 (e_.trans (own_len _ _ _ _ _))), hk.1.2⟩)⟩, ⟨by (with_reducible repeat (first | refine blk_drewN ?_ _ | refine blk_drew ?_ | refine blk_alloc ?_ _)); refine blk_put (cs := #[.int .i64 ((rd_T35 t360 x12_2).f0), .int .i64 ((rd_T35 t360 x12_2).f1), .int .i64 0]) ?_ 2 _ rfl; (with_reducible repeat (first | refine blk_drewN ?_ _ | refine blk_drew ?_ | refine blk_alloc ?_ _)); refine blk_put (cs := #[.int .i64 ((rd_T35 t360 x12_2).f0), .int .i64 0, .int .i64 0]) ?_ 1 _ rfl; (with_reducible repeat (first | refine blk_drewN ?_ _ | refine blk_drew ?_ | refine blk_alloc ?_ _)); refine blk_put (cs := #[.int .i64 0, .int .i64 0, .int .i64 0]) ?_ 0 _ rfl; (with_reducible repeat (first | refine blk_drewN ?_ _ | refine blk_drew ?_ | refine blk_alloc ?_ _)); exact BK372.out⟩, ⟨by repeat (first | (with_reducible first | exact HB.out | apply below_alloc | apply pw_below_drewN | apply below_drew1 | refine below_set ?_ GE372.out) | exact HB.out)⟩⟩
         ·rw [if_neg c22] at H
          have c22b0 : decide (x12_2 < (l2.length : Int)) = false := decide_eq_false c22
          clear c22
          (first | rw [c22b0] | (simp only [i64_w, i32_w]; rw [c22b0]) | skip)
          have H' := Aside0.mk H
          clear H
          go_wp2
          go_meet
          case rel => exact ⟨_, (1), (by first | rfl | (simp; done) | (simp [*]; done)), H', ⟨by have := HJ5.out; have := HK2.out; first | omega | exact Nat.le_refl _⟩, ⟨by (with_reducible repeat (first | apply Kd.R_alloc | apply Kd.R_drewN | apply Kd.R_drew)); first | exact Kd.R_mono (Kd.R_far (p := ⟨gb372, 2, none⟩) (Kd.R_far (p := ⟨gb372, 1, none⟩) (Kd.R_far (p := ⟨gb372, 0, none⟩) (Kd.R_mono HO_0.out (fun k_ hk => (⟨hk, hk.2⟩ : _ ∧ k_ ≠ gb372))) (fun _ hk => hk.2) (.int .i64 ((rd_T35 t360 x12_2).f0))) (fun _ hk => hk.2) (.int .i64 ((rd_T35 t360 x12_2).f1))) (fun _ hk => hk.2) (.int .i64 ((rd_T35 t360 x12_2).f2))) (fun _ hk => ⟨hk.1.1, hk.1.2⟩) | exact Kd.R_mono (Kd.R_far (p := ⟨gb372, 2, none⟩) (Kd.R_far (p := ⟨gb372, 1, none⟩) (Kd.R_far (p := ⟨gb372, 0, none⟩) (Kd.R_mono HO_0.out (fun k_ hk => (⟨hk, hk.2⟩ : _ ∧ k_ ≠ gb372))) (fun _ hk => hk.2) (.int .i64 ((rd_T35 t360 x12_2).f0))) (fun _ hk => hk.2) (.int .i64 ((rd_T35 t360 x12_2).f1))) (fun _ hk => hk.2) (.int .i64 ((rd_T35 t360 x12_2).f2))) (fun _ hk => ⟨(by first | exact hk.1.1 | exact fun e_ => hk.1.1 (e_.trans (own_len _ _ _ _ _))), hk.1.2⟩)⟩, ⟨by (with_reducible repeat (first | apply Kd.P_alloc | apply Kd.P_drewN | apply Kd.P_drew)); exact Kd.P_mono (Kd.P_far (p := ⟨gb372, 2, none⟩) (Kd.P_far (p := ⟨gb372, 1, none⟩) (Kd.P_far (p := ⟨gb372, 0, none⟩) (Kd.P_types HO_7.out BK372.out (by decide)) (fun _ hk => hk.2) (.int .i64 ((rd_T35 t360 x12_2).f0))) (fun _ hk => hk.2) (.int .i64 ((rd_T35 t360 x12_2).f1))) (fun _ hk => hk.2) (.int .i64 ((rd_T35 t360 x12_2).f2))) (fun _ hk => trivial)⟩, ⟨by (with_reducible repeat (first | apply Kd.R_alloc | apply Kd.R_drewN | apply Kd.R_drew)); first | exact Kd.R_mono (Kd.R_far (p := ⟨gb372, 2, none⟩) (Kd.R_far (p := ⟨gb372, 1, none⟩) (Kd.R_far (p := ⟨gb372, 0, none⟩) (Kd.R_mono HO_10.out (fun k_ hk => (⟨hk, hk.2⟩ : _ ∧ k_ ≠ gb372))) (fun _ hk => hk.2) (.int .i64 ((rd_T35 t360 x12_2).f0))) (fun _ hk => hk.2) (.int .i64 ((rd_T35 t360 x12_2).f1))) (fun _ hk => hk.2) (.int .i64 ((rd_T35 t360 x12_2).f2))) (fun _ hk => ⟨hk.1.1, hk.1.2⟩) | exact Kd.R_mono (Kd.R_far (p := ⟨gb372, 2, none⟩) (Kd.R_far (p := ⟨gb372, 1, none⟩) (Kd.R_far (p := ⟨gb372, 0, none⟩) (Kd.R_mono HO_10.out (fun k_ hk => (⟨hk, hk.2⟩ : _ ∧ k_ ≠ gb372))) (fun _ hk => hk.2) (.int .i64 ((rd_T35 t360 x12_2).f0))) (fun _ hk => hk.2) (.int .i64 ((rd_T35 t360 x12_2).f1))) (fun _ hk => hk.2) (.int .i64 ((rd_T35 t360 x12_2).f2))) (fun _ hk => ⟨(by first | exact hk.1.1 | exact fun e_ => hk.1.1 (e_.trans (own_len _ _ _ _ _))), hk.1.2⟩)⟩, ⟨by (with_reducible repeat (first | refine blk_drewN ?_ _ | refine blk_drew ?_ | refine blk_alloc ?_ _)); refine blk_put (cs := #[.int .i64 ((rd_T35 t360 x12_2).f0), .int .i64 ((rd_T35 t360 x12_2).f1), .int .i64 0]) ?_ 2 _ rfl; (with_reducible repeat (first | refine blk_drewN ?_ _ | refine blk_drew ?_ | refine blk_alloc ?_ _)); refine blk_put (cs := #[.int .i64 ((rd_T35 t360 x12_2).f0), .int .i64 0, .int .i64 0]) ?_ 1 _ rfl; (with_reducible repeat (first | refine blk_drewN ?_ _ | refine blk_drew ?_ | refine blk_alloc ?_ _)); refine blk_put (cs := #[.int .i64 0, .int .i64 0, .int .i64 0]) ?_ 0 _ rfl; (with_reducible repeat (first | refine blk_drewN ?_ _ | refine blk_drew ?_ | refine blk_alloc ?_ _)); exact BK372.out⟩, ⟨by repeat (first | (with_reducible first | exact HB.out | apply below_alloc | apply pw_below_drewN | apply below_drew1 | refine below_set ?_ GE372.out) | exact HB.out)⟩⟩
        case rest =>
         clear HC19
         (try clear c1); (try clear c2); (try clear p2); (try clear p3); (try clear q3); (try clear hx3); (try clear c6); (try clear c8); (try clear c9); (try clear c10); (try clear c10b0); (try clear c10b1); (try clear c11); (try clear c13); (try clear c15); (try clear c17); (try clear c17b0); (try clear c18); (try clear c18b0); (try clear c22); (try clear c22b0); (try clear hcz21_0); (try clear hcz21_1); (try clear hcz21_2); (try clear hfz21_0); (try clear hfz21_1); (try clear hfz21_2); (try clear hx371_0); (try clear hx371_1); (try clear hx371_2); (try clear hx373_0); (try clear p2); (try clear p371); (try clear p373); (try clear q371); (try clear q373)
         obtain ⟨kq, x14_18, rfl, HA, HJ18, HO_0, HO_7, HO_10, BK372, HB⟩ := hcut
         cases kq with
         | zero => exact absurd HA.out (by simp [endonymlaw4_TrieCut.j2])
         | succ kj18 =>
          have H := HA.out
          clear HA
          simp only [endonymlaw4_TrieCut.j2] at H
          have HC23 := Aside0.mk H
          clear H
          go_upto_region 14 with (fail)
          go_cut [72] (fun v72 wc => ∃ (kq : Nat) (x72_22 : Bool), v72 = .bool x72_22 ∧ Aside0 (endonymlaw4_TrieCut.j3 kq t360 a1 l2 t365 x10_2 x11_2 x12_2 x14_18 x72_22 ((rd_T35 t360 x12_2).f0) ((rd_T35 t360 x12_2).f1) ((rd_T35 t360 x12_2).f2) = some true) ∧ Aside0 (kq ≤ kj18) ∧ Aside0 (Kd.R k35 35 wc w.heap.size (fun k_ => some k_ ≠ (u10 : Value).ownBlock ∧ k_ ≠ gb372) (.slice (some ad371) t360.length co8) t360) ∧ Aside0 (Kd.P k57 57 wc w.heap.size (fun _ => True) v368 t365) ∧ Aside0 (Kd.R k35 35 wc w.heap.size (fun k_ => some k_ ≠ ((.slice (some ad371) t360.length co8) : Value).ownBlock ∧ k_ ≠ gb372) u10 x10_2) ∧ Aside0 (wc.heap[gb372]? = some (.cells #[.int .i64 ((rd_T35 t360 x12_2).f0), .int .i64 ((rd_T35 t360 x12_2).f1), .int .i64 ((rd_T35 t360 x12_2).f2)] 35 (0, 0))) ∧ Aside0 (Below w.heap.size w wc))
          case first =>
           have H := HC23.out
           clear HC23
           by_cases c24 : (Int.tmod x14_18 3) = 0
           ·rw [if_pos c24] at H
            have c24b0 : ((Int.tmod x14_18 3) == 0) = true := beq_iff_eq.mpr c24
            have c24b1 : ((Int.tmod x14_18 3) != 0) = false := bne_eq_false_iff_eq.mpr c24
            clear c24
            (first | rw [c24b0] | (simp only [i64_w, i32_w]; rw [c24b0]) | skip)
            have H' := Aside0.mk H
            clear H
            have hcz25_0 : wc.cell? ⟨gb372, 0, none⟩ = some (.int .i64 ((rd_T35 t360 x12_2).f0)) := (blk_cell BK372.out 0).trans rfl
            have hcz25_1 : wc.cell? ⟨gb372, 1, none⟩ = some (.int .i64 ((rd_T35 t360 x12_2).f1)) := (blk_cell BK372.out 1).trans rfl
            have hcz25_2 : wc.cell? ⟨gb372, 2, none⟩ = some (.int .i64 ((rd_T35 t360 x12_2).f2)) := (blk_cell BK372.out 2).trans rfl
            have hfz25_0 := blk_frozen BK372.out 0
            have hfz25_1 := blk_frozen BK372.out 1
            have hfz25_2 := blk_frozen BK372.out 2
            go_wp2
            go_meet
            case rel => exact ⟨_, (decide (((rd_T35 t360 x12_2).f0) > x11_2)), (by first | rfl | (simp; done) | (simp [*]; done)), H', ⟨by have := HJ5.out; have := HK2.out; have := HJ18.out; first | omega | exact Nat.le_refl _⟩, ⟨by (with_reducible repeat (first | apply Kd.R_alloc | apply Kd.R_drewN | apply Kd.R_drew)); first | exact HO_0.out | exact Kd.R_mono HO_0.out (fun _ hk => ⟨(by first | exact hk.1 | exact fun e_ => hk.1 (e_.trans (own_len _ _ _ _ _))), hk.2⟩)⟩, ⟨by (with_reducible repeat (first | apply Kd.P_alloc | apply Kd.P_drewN | apply Kd.P_drew)); exact HO_7.out⟩, ⟨by (with_reducible repeat (first | apply Kd.R_alloc | apply Kd.R_drewN | apply Kd.R_drew)); first | exact HO_10.out | exact Kd.R_mono HO_10.out (fun _ hk => ⟨(by first | exact hk.1 | exact fun e_ => hk.1 (e_.trans (own_len _ _ _ _ _))), hk.2⟩)⟩, ⟨by (with_reducible repeat (first | refine blk_drewN ?_ _ | refine blk_drew ?_ | refine blk_alloc ?_ _)); exact BK372.out⟩, ⟨by repeat (first | (with_reducible first | exact HB.out | apply below_alloc | apply pw_below_drewN | apply below_drew1 | refine below_set ?_ GE372.out) | exact HB.out)⟩⟩
           ·rw [if_neg c24] at H
            have c24b0 : ((Int.tmod x14_18 3) == 0) = false := beq_eq_false_iff_ne.mpr c24
            have c24b1 : ((Int.tmod x14_18 3) != 0) = true := bne_iff_ne.mpr c24
            (first | rw [c24b0] | (simp only [i64_w, i32_w]; rw [c24b0]) | skip)
            have H' := Aside0.mk H
            clear H
            go_wp2
            go_meet
            case rel => exact ⟨_, (false), (by first | rfl | (simp; done) | (simp [*]; done)), H', ⟨by have := HJ5.out; have := HK2.out; have := HJ18.out; first | omega | exact Nat.le_refl _⟩, ⟨by (with_reducible repeat (first | apply Kd.R_alloc | apply Kd.R_drewN | apply Kd.R_drew)); first | exact HO_0.out | exact Kd.R_mono HO_0.out (fun _ hk => ⟨(by first | exact hk.1 | exact fun e_ => hk.1 (e_.trans (own_len _ _ _ _ _))), hk.2⟩)⟩, ⟨by (with_reducible repeat (first | apply Kd.P_alloc | apply Kd.P_drewN | apply Kd.P_drew)); exact HO_7.out⟩, ⟨by (with_reducible repeat (first | apply Kd.R_alloc | apply Kd.R_drewN | apply Kd.R_drew)); first | exact HO_10.out | exact Kd.R_mono HO_10.out (fun _ hk => ⟨(by first | exact hk.1 | exact fun e_ => hk.1 (e_.trans (own_len _ _ _ _ _))), hk.2⟩)⟩, ⟨by (with_reducible repeat (first | refine blk_drewN ?_ _ | refine blk_drew ?_ | refine blk_alloc ?_ _)); exact BK372.out⟩, ⟨by repeat (first | (with_reducible first | exact HB.out | apply below_alloc | apply pw_below_drewN | apply below_drew1 | refine below_set ?_ GE372.out) | exact HB.out)⟩⟩
          case rest =>
           clear HC23
           (try clear c1); (try clear c2); (try clear p2); (try clear p3); (try clear q3); (try clear hx3); (try clear c6); (try clear c8); (try clear c9); (try clear c10); (try clear c10b0); (try clear c10b1); (try clear c11); (try clear c13); (try clear c15); (try clear c17); (try clear c17b0); (try clear c18); (try clear c18b0); (try clear c22); (try clear c22b0); (try clear c24); (try clear c24b0); (try clear c24b1); (try clear hcz21_0); (try clear hcz21_1); (try clear hcz21_2); (try clear hcz25_0); (try clear hcz25_1); (try clear hcz25_2); (try clear hfz21_0); (try clear hfz21_1); (try clear hfz21_2); (try clear hfz25_0); (try clear hfz25_1); (try clear hfz25_2); (try clear hx371_0); (try clear hx371_1); (try clear hx371_2); (try clear hx373_0); (try clear p2); (try clear p3); (try clear p371); (try clear p373); (try clear q3); (try clear q371); (try clear q373)
           obtain ⟨kq, x72_22, rfl, HA, HJ22, HO_0, HO_7, HO_10, BK372, HB⟩ := hcut
           cases kq with
           | zero => exact absurd HA.out (by simp [endonymlaw4_TrieCut.j3])
           | succ kj22 =>
            have H := HA.out
            clear HA
            simp only [endonymlaw4_TrieCut.j3] at H
            by_cases c26 : x72_22 = true
            ·subst c26
             have H1 : (if (wrap64 (((rd_T35 t360 x12_2).f0) - x11_2)) = 0 then (none) else (if x10_2.length < 5864062014805 then ((some (x10_2 ++ [(⟨wrap64 (x11_2 + (Int.tmod x14_18 (wrap64 (((rd_T35 t360 x12_2).f0) - x11_2)))), wrap64 (((rd_T35 t360 x12_2).f0) - 1), a1⟩ : S35)] : List (S35))).bind fun y374 => (if ((rd_T35 t360 x12_2).f1) > ((rd_T35 t360 x12_2).f0) then (if (wrap64 (((rd_T35 t360 x12_2).f1) - ((rd_T35 t360 x12_2).f0))) = 0 then (none) else ((some (([(⟨((rd_T35 t360 x12_2).f0), wrap64 (((rd_T35 t360 x12_2).f0) + (Int.tmod x14_18 (wrap64 (((rd_T35 t360 x12_2).f1) - ((rd_T35 t360 x12_2).f0))))), ((rd_T35 t360 x12_2).f2)⟩ : S35), (⟨wrap64 ((wrap64 (((rd_T35 t360 x12_2).f0) + (Int.tmod x14_18 (wrap64 (((rd_T35 t360 x12_2).f1) - ((rd_T35 t360 x12_2).f0)))))) + 1), ((rd_T35 t360 x12_2).f1), ((rd_T35 t360 x12_2).f2)⟩ : S35)] : List (S35)) : List (S35))).bind fun y377 => (if y374.length + y377.length < 5864062014805 then (endonymlaw4_TrieCut.l0 kj22 t360 a1 l2 t365 (y374 ++ y377) (wrap64 (((rd_T35 t360 x12_2).f1) + 1)) (wrap64 (x12_2 + 1))) else (none)))) else (if y374.length < 5864062014805 then (endonymlaw4_TrieCut.l0 kj22 t360 a1 l2 t365 (y374 ++ [(⟨((rd_T35 t360 x12_2).f0), ((rd_T35 t360 x12_2).f1), ((rd_T35 t360 x12_2).f2)⟩ : S35)]) (wrap64 (((rd_T35 t360 x12_2).f1) + 1)) (wrap64 (x12_2 + 1))) else (none)))) else (none))) = some true := by rw [if_pos rfl] at H; exact H
             clear H
             have H := H1
             clear H1
             by_cases c27 : (wrap64 (((rd_T35 t360 x12_2).f0) - x11_2)) = 0
             ·rw [if_pos c27] at H
              exact absurd H (by simp)
             ·rw [if_neg c27] at H
              have c27b0 : ((wrap64 (((rd_T35 t360 x12_2).f0) - x11_2)) == 0) = false := beq_eq_false_iff_ne.mpr c27
              have c27b1 : ((wrap64 (((rd_T35 t360 x12_2).f0) - x11_2)) != 0) = true := bne_iff_ne.mpr c27
              by_cases c28 : x10_2.length < 5864062014805
              ·rw [if_pos c28] at H
               have LMc28 := Aside0.mk c28
               clear c28
               obtain ⟨y374, hy374⟩ : ∃ y_ : List (S35), y_ = (x10_2 ++ [(⟨wrap64 (x11_2 + (Int.tmod x14_18 (wrap64 (((rd_T35 t360 x12_2).f0) - x11_2)))), wrap64 (((rd_T35 t360 x12_2).f0) - 1), a1⟩ : S35)]) := ⟨_, rfl⟩
               replace H : (if ((rd_T35 t360 x12_2).f1) > ((rd_T35 t360 x12_2).f0) then (if (wrap64 (((rd_T35 t360 x12_2).f1) - ((rd_T35 t360 x12_2).f0))) = 0 then (none) else ((some (([(⟨((rd_T35 t360 x12_2).f0), wrap64 (((rd_T35 t360 x12_2).f0) + (Int.tmod x14_18 (wrap64 (((rd_T35 t360 x12_2).f1) - ((rd_T35 t360 x12_2).f0))))), ((rd_T35 t360 x12_2).f2)⟩ : S35), (⟨wrap64 ((wrap64 (((rd_T35 t360 x12_2).f0) + (Int.tmod x14_18 (wrap64 (((rd_T35 t360 x12_2).f1) - ((rd_T35 t360 x12_2).f0)))))) + 1), ((rd_T35 t360 x12_2).f1), ((rd_T35 t360 x12_2).f2)⟩ : S35)] : List (S35)) : List (S35))).bind fun y377 => (if y374.length + y377.length < 5864062014805 then (endonymlaw4_TrieCut.l0 kj22 t360 a1 l2 t365 (y374 ++ y377) (wrap64 (((rd_T35 t360 x12_2).f1) + 1)) (wrap64 (x12_2 + 1))) else (none)))) else (if y374.length < 5864062014805 then (endonymlaw4_TrieCut.l0 kj22 t360 a1 l2 t365 (y374 ++ [(⟨((rd_T35 t360 x12_2).f0), ((rd_T35 t360 x12_2).f1), ((rd_T35 t360 x12_2).f2)⟩ : S35)]) (wrap64 (((rd_T35 t360 x12_2).f1) + 1)) (wrap64 (x12_2 + 1))) else (none))) = some true := by first | (rw [hy374]; with_reducible exact H) | (have H2_ := (Option.bind_some _ _).symm.trans H; rw [hy374]; with_reducible exact H2_) | (have H2_ := (Option.bind_some _ _).symm.trans H; with_reducible exact H2_) | with_reducible exact H | (rw [hy374]; exact H) | exact H
               have Ny374 := Aside0.mk hy374
               clear hy374
               by_cases c29 : ((rd_T35 t360 x12_2).f1) > ((rd_T35 t360 x12_2).f0)
               ·rw [if_pos c29] at H
                have c29b0 : decide (((rd_T35 t360 x12_2).f0) < ((rd_T35 t360 x12_2).f1)) = true := decide_eq_true c29
                clear c29
                by_cases c30 : (wrap64 (((rd_T35 t360 x12_2).f1) - ((rd_T35 t360 x12_2).f0))) = 0
                ·rw [if_pos c30] at H
                 exact absurd H (by simp)
                ·rw [if_neg c30] at H
                 have c30b0 : ((wrap64 (((rd_T35 t360 x12_2).f1) - ((rd_T35 t360 x12_2).f0))) == 0) = false := beq_eq_false_iff_ne.mpr c30
                 have c30b1 : ((wrap64 (((rd_T35 t360 x12_2).f1) - ((rd_T35 t360 x12_2).f0))) != 0) = true := bne_iff_ne.mpr c30
                 obtain ⟨y377, hy377⟩ : ∃ y_ : List (S35), y_ = (([(⟨((rd_T35 t360 x12_2).f0), wrap64 (((rd_T35 t360 x12_2).f0) + (Int.tmod x14_18 (wrap64 (((rd_T35 t360 x12_2).f1) - ((rd_T35 t360 x12_2).f0))))), ((rd_T35 t360 x12_2).f2)⟩ : S35), (⟨wrap64 ((wrap64 (((rd_T35 t360 x12_2).f0) + (Int.tmod x14_18 (wrap64 (((rd_T35 t360 x12_2).f1) - ((rd_T35 t360 x12_2).f0)))))) + 1), ((rd_T35 t360 x12_2).f1), ((rd_T35 t360 x12_2).f2)⟩ : S35)] : List (S35))) := ⟨_, rfl⟩
                 replace H : (if y374.length + y377.length < 5864062014805 then (endonymlaw4_TrieCut.l0 kj22 t360 a1 l2 t365 (y374 ++ y377) (wrap64 (((rd_T35 t360 x12_2).f1) + 1)) (wrap64 (x12_2 + 1))) else (none)) = some true := by first | (rw [hy377]; with_reducible exact H) | (have H2_ := (Option.bind_some _ _).symm.trans H; rw [hy377]; with_reducible exact H2_) | (have H2_ := (Option.bind_some _ _).symm.trans H; with_reducible exact H2_) | with_reducible exact H | (rw [hy377]; exact H) | exact H
                 have Ny377 := Aside0.mk hy377
                 clear hy377
                 by_cases c31 : y374.length + y377.length < 5864062014805
                 ·rw [if_pos c31] at H
                  have LMc31 := Aside0.mk c31
                  clear c31
                  obtain ⟨y380, hy380⟩ : ∃ y_ : List (S35), y_ = (y374 ++ y377) := ⟨_, rfl⟩
                  replace H : (endonymlaw4_TrieCut.l0 kj22 t360 a1 l2 t365 y380 (wrap64 (((rd_T35 t360 x12_2).f1) + 1)) (wrap64 (x12_2 + 1))) = some true := by first | (rw [hy380]; with_reducible exact H) | (have H2_ := (Option.bind_some _ _).symm.trans H; rw [hy380]; with_reducible exact H2_) | (have H2_ := (Option.bind_some _ _).symm.trans H; with_reducible exact H2_) | with_reducible exact H | (rw [hy380]; exact H) | exact H
                  have Ny380 := Aside0.mk hy380
                  clear hy380
                  have H' := Aside0.mk H
                  clear H
                  try go_wp2
                  have n0_ := Aside0.mk (Kd.R_drew HO_0.out)
                  have n1_ := Aside0.mk (Kd.P_drew HO_7.out)
                  have n2_ := Aside0.mk (Kd.R_drew HO_10.out)
                  have n3_ := Aside0.mk (blk_drew BK372.out)
                  have n4_ := Aside0.mk (below_drew1 HB.out)
                  clear HO_0
                  clear HO_7
                  clear HO_10
                  clear BK372
                  clear HB
                  have HO_0 := n0_
                  have HO_7 := n1_
                  have HO_10 := n2_
                  have BK372 := n3_
                  have HB := n4_
                  clear n0_ n1_ n2_ n3_ n4_
                  refine start_ (n := 17) (S := fun w' => w'.cell? ⟨gb372, 0, none⟩ = some (.int .i64 ((rd_T35 t360 x12_2).f0)) ∧ w'.cell? ⟨gb372, 1, none⟩ = some (.int .i64 ((rd_T35 t360 x12_2).f1)) ∧ w'.cell? ⟨gb372, 2, none⟩ = some (.int .i64 ((rd_T35 t360 x12_2).f2))) (ds := []) #[false, false, false, false, false, false, false, false, false, false, false, false, false, false, false, false, false] (by kernel_rfl) rfl rfl ⟨(blk_cell BK372.out 0).trans rfl, (blk_cell BK372.out 1).trans rfl, (blk_cell BK372.out 2).trans rfl⟩ (fun hHeld => ?_); refine with_tabW endonymlaw4_TrieCut.tab15 endonymlaw4_TrieCut.bits15 (fun HT_ HW_ => ?_)
                  generalize wc.drew = w32 at HO_0 HO_7 HO_10 BK372 HB hHeld ⊢
                  refine pure_ (i := 0) (N := some 73) (v := ?_) (a' := ?_) #[x_, o_, o_, o_, o_, o_, o_, o_, o_, o_, o_, o_, o_, o_, o_, o_, o_] rfl rfl (any_of HT_.out (by kernel_rfl)) (fun _ _ _ h => h) (Or.inl ⟨by rfl, ?_⟩) ?_ ?_; rotate_left; (·(intro w'; go_simp <;> with_reducible rfl)); rotate_left; (·(simp only [Act.put, List.setIfInBounds_toArray, List.set_cons_zero, List.set_cons_succ, i64_w, i32_w] <;> rfl))
                  refine pure_ (i := 1) (N := some 74) (v := ?_) (a' := ?_) #[x_, x_, o_, o_, o_, o_, o_, o_, o_, o_, o_, o_, o_, o_, o_, o_, o_] rfl rfl (any_of HT_.out (by kernel_rfl)) (fun _ _ _ h => h) (Or.inl ⟨by rfl, ?_⟩) ?_ ?_; rotate_left; (·(intro w'; go_simp <;> with_reducible rfl)); rotate_left; (·(simp only [Act.put, List.setIfInBounds_toArray, List.set_cons_zero, List.set_cons_succ, i64_w, i32_w] <;> rfl))
                  refine pure_ (i := 2) (N := some 75) (v := ?_) (a' := ?_) #[x_, x_, x_, o_, o_, o_, o_, o_, o_, o_, o_, o_, o_, o_, o_, o_, o_] rfl rfl (any_of HT_.out (by kernel_rfl)) (fun _ _ _ h => h) (Or.inl ⟨by rfl, ?_⟩) ?_ ?_; rotate_left; (·(intro w'; go_simp <;> with_reducible rfl)); rotate_left; (·(simp only [Act.put, List.setIfInBounds_toArray, List.set_cons_zero, List.set_cons_succ, i64_w, i32_w] <;> rfl))
                  refine pure_ (i := 3) (N := some 76) (v := ?_) (a' := ?_) #[x_, x_, x_, x_, o_, o_, o_, o_, o_, o_, o_, o_, o_, o_, o_, o_, o_] rfl rfl (any_of HT_.out (by kernel_rfl)) (fun _ _ _ h => h) (Or.inl ⟨by rfl, ?_⟩) ?_ ?_; rotate_left; (·(intro w'; go_simp <;> with_reducible rfl)); rotate_left; (·(simp only [Act.put, List.setIfInBounds_toArray, List.set_cons_zero, List.set_cons_succ, i64_w, i32_w] <;> rfl))
                  refine pure_ (i := 5) (N := some 78) (v := ?_) (a' := ?_) #[x_, x_, x_, x_, o_, x_, o_, o_, o_, o_, o_, o_, o_, o_, o_, o_, o_] rfl rfl (any_of HT_.out (by kernel_rfl)) (fun _ _ _ h => h) (Or.inl ⟨by rfl, ?_⟩) ?_ ?_; rotate_left; (·(intro w'; go_simp <;> with_reducible rfl)); rotate_left; (·(simp only [Act.put, List.setIfInBounds_toArray, List.set_cons_zero, List.set_cons_succ, i64_w, i32_w] <;> rfl))
                  refine pure_ (i := 9) (N := some 82) (v := ?_) (a' := ?_) #[x_, x_, x_, x_, o_, x_, o_, o_, o_, x_, o_, o_, o_, o_, o_, o_, o_] rfl rfl (any_of HT_.out (by kernel_rfl)) (fun _ _ _ h => h) (Or.inl ⟨by rfl, ?_⟩) ?_ ?_; rotate_left; (·(intro w'; go_simp <;> with_reducible rfl)); rotate_left; (·(simp only [Act.put, List.setIfInBounds_toArray, List.set_cons_zero, List.set_cons_succ, i64_w, i32_w] <;> rfl))
                  refine pure_ (i := 12) (N := some 85) (v := ?_) (a' := ?_) #[x_, x_, x_, x_, o_, x_, o_, o_, o_, x_, o_, o_, x_, o_, o_, o_, o_] rfl rfl (any_of HT_.out (by kernel_rfl)) (fun _ _ _ h => h) (Or.inl ⟨by rfl, ?_⟩) ?_ ?_; rotate_left; (·(intro w'; go_simp <;> with_reducible rfl)); rotate_left; (·(simp only [Act.put, List.setIfInBounds_toArray, List.set_cons_zero, List.set_cons_succ, i64_w, i32_w] <;> rfl))
                  refine take_ (i := 4) (N := some 77) (v := ?_) (a' := ?_) #[true, true, true, true, true, true, false, false, false, true, false, false, true, false, false, false, false] rfl rfl (take_ofW HT_.out HW_.out (by kernel_rfl)) (fun _ _ _ h => h) (Or.inl ⟨by rfl, ?_⟩) hHeld ?_ ?_
                  rotate_left
                  ·rintro w' ⟨s0, s1, s2⟩
                   go_simp
                   with_reducible rfl
                  rotate_left
                  ·simp only [Act.put, List.setIfInBounds_toArray, List.set_cons_zero, List.set_cons_succ, i64_w, i32_w]
                   rfl
                  refine pure_ (i := 6) (N := some 79) (v := ?_) (a' := ?_) #[x_, x_, x_, x_, x_, x_, x_, o_, o_, x_, o_, o_, x_, o_, o_, o_, o_] rfl rfl (any_of HT_.out (by kernel_rfl)) (fun _ _ _ h => h) (Or.inl ⟨by rfl, ?_⟩) ?_ ?_; rotate_left; (·(intro w'; go_simp <;> with_reducible rfl)); rotate_left; (·(simp only [Act.put, List.setIfInBounds_toArray, List.set_cons_zero, List.set_cons_succ, i64_w, i32_w] <;> rfl))
                  refine pure_ (i := 7) (N := some 80) (v := ?_) (a' := ?_) #[x_, x_, x_, x_, x_, x_, x_, x_, o_, x_, o_, o_, x_, o_, o_, o_, o_] rfl rfl (any_of HT_.out (by kernel_rfl)) (fun _ _ _ h => h) (Or.inl ⟨by rfl, ?_⟩) ?_ ?_; rotate_left; (·(intro w'; go_simp <;> with_reducible rfl)); rotate_left; (·(simp only [Act.put, List.setIfInBounds_toArray, List.set_cons_zero, List.set_cons_succ, i64_w, i32_w] <;> rfl))
                  refine pure_ (i := 8) (N := some 81) (v := ?_) (a' := ?_) #[x_, x_, x_, x_, x_, x_, x_, x_, x_, x_, o_, o_, x_, o_, o_, o_, o_] rfl rfl (any_of HT_.out (by kernel_rfl)) (fun _ _ _ h => h) (Or.inl ⟨by rfl, ?_⟩) ?_ ?_; rotate_left; (·(intro w'; go_simp <;> with_reducible rfl)); rotate_left; (·(simp only [Act.put, List.setIfInBounds_toArray, List.set_cons_zero, List.set_cons_succ, i64_w, i32_w] <;> rfl))
                  refine take_ (i := 10) (N := some 83) (v := ?_) (a' := ?_) #[true, true, true, true, true, true, true, true, true, true, true, false, true, false, false, false, false] rfl rfl (take_ofW HT_.out HW_.out (by kernel_rfl)) (fun _ _ _ h => h) (Or.inl ⟨by rfl, ?_⟩) hHeld ?_ ?_
                  rotate_left
                  ·rintro w' ⟨s0, s1, s2⟩
                   go_simp
                   with_reducible rfl
                  rotate_left
                  ·simp only [Act.put, List.setIfInBounds_toArray, List.set_cons_zero, List.set_cons_succ, i64_w, i32_w]
                   rfl
                  refine pure_ (i := 11) (N := some 84) (v := ?_) (a' := ?_) #[x_, x_, x_, x_, x_, x_, x_, x_, x_, x_, x_, x_, x_, o_, o_, o_, o_] rfl rfl (any_of HT_.out (by kernel_rfl)) (fun _ _ _ h => h) (Or.inl ⟨by rfl, ?_⟩) ?_ ?_; rotate_left; (·(intro w'; go_simp <;> with_reducible rfl)); rotate_left; (·(simp only [Act.put, List.setIfInBounds_toArray, List.set_cons_zero, List.set_cons_succ, i64_w, i32_w] <;> rfl))
                  refine pure_ (i := 13) (N := some 86) (v := ?_) (a' := ?_) #[x_, x_, x_, x_, x_, x_, x_, x_, x_, x_, x_, x_, x_, x_, o_, o_, o_] rfl rfl (any_of HT_.out (by kernel_rfl)) (fun _ _ _ h => h) (Or.inl ⟨by rfl, ?_⟩) ?_ ?_; rotate_left; (·(intro w'; go_simp <;> with_reducible rfl)); rotate_left; (·(simp only [Act.put, List.setIfInBounds_toArray, List.set_cons_zero, List.set_cons_succ, i64_w, i32_w] <;> rfl))
                  refine one_ (i := 14) (N := some 87) #[true, true, true, true, true, true, true, true, true, true, true, true, true, true, true, false, false] rfl rfl (one_of HT_.out (by kernel_rfl)) (by decide) (fun K hK => ?_)
                  refine value_ (w1 := ?_) (v := ?_) (by rfl) rfl ?_ ?_
                  rotate_left 2
                  ·go_simp
                   constructor
                   ·rfl
                   ·rfl
                  refine hK.out _ _ ⟨(blk_cell (blk_alloc BK372.out _) 0).trans rfl, (blk_cell (blk_alloc BK372.out _) 1).trans rfl, (blk_cell (blk_alloc BK372.out _) 2).trans rfl⟩ (fun hHeld => ?_)
                  clear hK K
                  refine norm_ (a' := ?_) ?_ ?_
                  rotate_left
                  ·show Act.put _ (some 87) _ = _
                   simp only [Act.put, List.setIfInBounds_toArray, List.set_cons_zero, List.set_cons_succ, i64_w, i32_w]
                   rfl
                  refine one_ (i := 15) (N := some 88) #[true, true, true, true, true, true, true, true, true, true, true, true, true, true, true, true, false] rfl rfl (one_of HT_.out (by kernel_rfl)) (by decide) (fun K hK => ?_)
                  refine Kd.R_append_step k35 (w0 := w) w.heap.size (by rfl) (.tmp 73) (.tmp 87) 22 35 (.agg #[(.int .i64 0), (.int .i64 0), (.int .i64 0)]) 24 rfl Try.underlying22 info35 rfl (by decide) (by omega) u10 x10_2 (⟨wrap64 (x11_2 + (Int.tmod x14_18 (wrap64 (((rd_T35 t360 x12_2).f0) - x11_2)))), wrap64 (((rd_T35 t360 x12_2).f0) - 1), a1⟩ : S35) [.int .i64 (wrap64 (x11_2 + (Int.tmod x14_18 (wrap64 (((rd_T35 t360 x12_2).f0) - x11_2))))), .int .i64 (wrap64 (((rd_T35 t360 x12_2).f0) - 1)), .int .i64 a1] (fun k_ => some k_ ≠ (.slice (some ad371) t360.length co8 : Value).ownBlock ∧ k_ ≠ gb372) (fun _ => False) rfl rfl ?aP (fun _ hk => hk.elim) ?aF ?aO ?aB ?aS ?aL ?_
                  (case aP => exact k35_mkM _ _ _ (⟨wrap64 (x11_2 + (Int.tmod x14_18 (wrap64 (((rd_T35 t360 x12_2).f0) - x11_2)))), wrap64 (((rd_T35 t360 x12_2).f0) - 1), a1⟩ : S35))
                  (case aB => exact (by repeat (first | (with_reducible first | exact HB.out | apply below_alloc | apply pw_below_drewN | apply below_drew1 | refine below_set ?_ GE372.out) | exact HB.out)))
                  (case aF => exact (fun k_ hk => ⟨Kd.fresh' (Kd.R_lt (by (with_reducible repeat (first | apply Kd.R_alloc | apply Kd.R_drewN | apply Kd.R_drew)); first | exact HO_0.out | exact Kd.R_mono HO_0.out (fun _ hk => ⟨(by first | exact hk.1 | exact fun e_ => hk.1 (e_.trans (own_len _ _ _ _ _))), hk.2⟩))) k_ hk, Kd.freshB (g := gb372) (o := .cells #[.int .i64 ((rd_T35 t360 x12_2).f0), .int .i64 ((rd_T35 t360 x12_2).f1), .int .i64 ((rd_T35 t360 x12_2).f2)] 35 (0, 0)) (by (with_reducible repeat (first | refine blk_drewN ?_ _ | refine blk_drew ?_ | refine blk_alloc ?_ _)); exact BK372.out) k_ hk⟩))
                  (case aO => exact (by (with_reducible repeat (first | apply Kd.R_alloc | apply Kd.R_drewN | apply Kd.R_drew)); first | exact HO_10.out | exact Kd.R_mono HO_10.out (fun _ hk => ⟨(by first | exact hk.1 | exact fun e_ => hk.1 (e_.trans (own_len _ _ _ _ _))), hk.2⟩)))
                  (case aS => exact (below_size (by repeat (first | (with_reducible first | exact HB.out | apply below_alloc | apply pw_below_drewN | apply below_drew1 | refine below_set ?_ GE372.out) | exact HB.out))))
                  (case aL => have := LMc28.out; omega)
                  intro v375 w33 ho hb hg hat
                  rw [← Ny374.out] at ho
                  have n0_ := Aside0.mk (Kd.R_after (ok := (fun k_ => k_ ≠ gb372)) (by (with_reducible repeat (first | apply Kd.R_alloc | apply Kd.R_drewN | apply Kd.R_drew)); first | exact Kd.R_mono HO_0.out (fun _ hk => ⟨hk.2, hk.1⟩) | exact Kd.R_mono HO_0.out (fun _ hk => ⟨hk.2, (by first | exact hk.1 | exact fun e_ => hk.1 (e_.trans (own_len _ _ _ _ _)))⟩)) hg hat)
                  have n1_ := Aside0.mk (Kd.P_over' (by (with_reducible repeat (first | apply Kd.P_alloc | apply Kd.P_drewN | apply Kd.P_drew)); exact HO_7.out) (Kd.R_typed (by (with_reducible repeat (first | apply Kd.R_alloc | apply Kd.R_drewN | apply Kd.R_drew)); first | exact HO_10.out | exact Kd.R_mono HO_10.out (fun _ hk => ⟨(by first | exact hk.1 | exact fun e_ => hk.1 (e_.trans (own_len _ _ _ _ _))), hk.2⟩))) (by decide) hg)
                  have n2_ := Aside0.mk (blk_grown (g := gb372) (o := .cells #[.int .i64 ((rd_T35 t360 x12_2).f0), .int .i64 ((rd_T35 t360 x12_2).f1), .int .i64 ((rd_T35 t360 x12_2).f2)] 35 (0, 0)) (by (with_reducible repeat (first | refine blk_drewN ?_ _ | refine blk_drew ?_ | refine blk_alloc ?_ _)); exact BK372.out) hg (Kd.R_away HO_10.out (fun _ hk => hk.2)))
                  have n3_ := Aside0.mk (hb)
                  have n4_ := Aside0.mk (ho)
                  clear HO_0
                  clear HO_7
                  clear BK372
                  clear HB
                  clear HO_10
                  have HO_0 := n0_
                  have HO_7 := n1_
                  have BK372 := n2_
                  have HB := n3_
                  have HO376 := n4_
                  clear n0_ n1_ n2_ n3_ n4_
                  clear ho hb hg hat
                  refine hK.out _ _ ⟨(blk_cell BK372.out 0).trans rfl, (blk_cell BK372.out 1).trans rfl, (blk_cell BK372.out 2).trans rfl⟩ (fun hHeld => ?_)
                  clear hK K
                  refine norm_ (a' := ?_) ?_ ?_
                  rotate_left
                  ·show Act.put _ (some 88) _ = _
                   simp only [Act.put, List.setIfInBounds_toArray, List.set_cons_zero, List.set_cons_succ, i64_w, i32_w]
                   rfl
                  refine pure_ (i := 16) (N := some 10) (v := ?_) (a' := ?_) #[x_, x_, x_, x_, x_, x_, x_, x_, x_, x_, x_, x_, x_, x_, x_, x_, x_] rfl rfl (any_of HT_.out (by kernel_rfl)) (fun _ _ _ h => h) (Or.inl ⟨by rfl, ?_⟩) ?_ ?_; rotate_left; (·(intro w'; go_simp <;> with_reducible rfl)); rotate_left; (·(simp only [Act.put, List.setIfInBounds_toArray, List.set_cons_zero, List.set_cons_succ, i64_w, i32_w] <;> rfl))
                  refine done_ (done_of HT_.out (by kernel_rfl)) ?_
                  have hcz34_0 : w33.cell? ⟨gb372, 0, none⟩ = some (.int .i64 ((rd_T35 t360 x12_2).f0)) := (blk_cell BK372.out 0).trans rfl
                  have hcz34_1 : w33.cell? ⟨gb372, 1, none⟩ = some (.int .i64 ((rd_T35 t360 x12_2).f1)) := (blk_cell BK372.out 1).trans rfl
                  have hcz34_2 : w33.cell? ⟨gb372, 2, none⟩ = some (.int .i64 ((rd_T35 t360 x12_2).f2)) := (blk_cell BK372.out 2).trans rfl
                  have hfz34_0 := blk_frozen BK372.out 0
                  have hfz34_1 := blk_frozen BK372.out 1
                  have hfz34_2 := blk_frozen BK372.out 2
                  try go_wp2
                  have n0_ := Aside0.mk (Kd.R_drew HO_0.out)
                  have n1_ := Aside0.mk (Kd.P_drew HO_7.out)
                  have n2_ := Aside0.mk (Kd.R_drew HO376.out)
                  have n3_ := Aside0.mk (blk_drew BK372.out)
                  have n4_ := Aside0.mk (below_drew1 HB.out)
                  clear HO_0
                  clear HO_7
                  clear HO376
                  clear BK372
                  clear HB
                  have HO_0 := n0_
                  have HO_7 := n1_
                  have HO376 := n2_
                  have BK372 := n3_
                  have HB := n4_
                  clear n0_ n1_ n2_ n3_ n4_
                  refine start_ (n := 11) (S := fun w' => w'.cell? ⟨gb372, 0, none⟩ = some (.int .i64 ((rd_T35 t360 x12_2).f0)) ∧ w'.cell? ⟨gb372, 1, none⟩ = some (.int .i64 ((rd_T35 t360 x12_2).f1)) ∧ w'.cell? ⟨gb372, 2, none⟩ = some (.int .i64 ((rd_T35 t360 x12_2).f2))) (ds := []) #[false, false, false, false, false, false, false, false, false, false, false] (by kernel_rfl) rfl rfl ⟨(blk_cell BK372.out 0).trans rfl, (blk_cell BK372.out 1).trans rfl, (blk_cell BK372.out 2).trans rfl⟩ (fun hHeld => ?_); refine with_tabW endonymlaw4_TrieCut.tab17 endonymlaw4_TrieCut.bits17 (fun HT_ HW_ => ?_)
                  generalize w33.drew = w35 at HO_0 HO_7 HO376 BK372 HB hHeld ⊢
                  refine pure_ (i := 0) (N := some 94) (v := ?_) (a' := ?_) #[x_, o_, o_, o_, o_, o_, o_, o_, o_, o_, o_] rfl rfl (any_of HT_.out (by kernel_rfl)) (fun _ _ _ h => h) (Or.inl ⟨by rfl, ?_⟩) ?_ ?_; rotate_left; (·(intro w'; go_simp <;> with_reducible rfl)); rotate_left; (·(simp only [Act.put, List.setIfInBounds_toArray, List.set_cons_zero, List.set_cons_succ, i64_w, i32_w] <;> rfl))
                  refine pure_ (i := 2) (N := some 96) (v := ?_) (a' := ?_) #[x_, o_, x_, o_, o_, o_, o_, o_, o_, o_, o_] rfl rfl (any_of HT_.out (by kernel_rfl)) (fun _ _ _ h => h) (Or.inl ⟨by rfl, ?_⟩) ?_ ?_; rotate_left; (·(intro w'; go_simp <;> with_reducible rfl)); rotate_left; (·(simp only [Act.put, List.setIfInBounds_toArray, List.set_cons_zero, List.set_cons_succ, i64_w, i32_w] <;> rfl))
                  refine pure_ (i := 3) (N := some 97) (v := ?_) (a' := ?_) #[x_, o_, x_, x_, o_, o_, o_, o_, o_, o_, o_] rfl rfl (any_of HT_.out (by kernel_rfl)) (fun _ _ _ h => h) (Or.inl ⟨by rfl, ?_⟩) ?_ ?_; rotate_left; (·(intro w'; go_simp <;> with_reducible rfl)); rotate_left; (·(simp only [Act.put, List.setIfInBounds_toArray, List.set_cons_zero, List.set_cons_succ, i64_w, i32_w] <;> rfl))
                  refine pure_ (i := 5) (N := some 99) (v := ?_) (a' := ?_) #[x_, o_, x_, x_, o_, x_, o_, o_, o_, o_, o_] rfl rfl (any_of HT_.out (by kernel_rfl)) (fun _ _ _ h => h) (Or.inl ⟨by rfl, ?_⟩) ?_ ?_; rotate_left; (·(intro w'; go_simp <;> with_reducible rfl)); rotate_left; (·(simp only [Act.put, List.setIfInBounds_toArray, List.set_cons_zero, List.set_cons_succ, i64_w, i32_w] <;> rfl))
                  refine take_ (i := 1) (N := some 95) (v := ?_) (a' := ?_) #[true, true, true, true, false, true, false, false, false, false, false] rfl rfl (take_ofW HT_.out HW_.out (by kernel_rfl)) (fun _ _ _ h => h) (Or.inl ⟨by rfl, ?_⟩) hHeld ?_ ?_
                  rotate_left
                  ·rintro w' ⟨s0, s1, s2⟩
                   go_simp
                   with_reducible rfl
                  rotate_left
                  ·simp only [Act.put, List.setIfInBounds_toArray, List.set_cons_zero, List.set_cons_succ, i64_w, i32_w]
                   rfl
                  refine take_ (i := 4) (N := some 98) (v := ?_) (a' := ?_) #[true, true, true, true, true, true, false, false, false, false, false] rfl rfl (take_ofW HT_.out HW_.out (by kernel_rfl)) (fun _ _ _ h => h) (Or.inl ⟨by rfl, ?_⟩) hHeld ?_ ?_
                  rotate_left
                  ·rintro w' ⟨s0, s1, s2⟩
                   go_simp
                   with_reducible rfl
                  rotate_left
                  ·simp only [Act.put, List.setIfInBounds_toArray, List.set_cons_zero, List.set_cons_succ, i64_w, i32_w]
                   rfl
                  refine take_ (i := 6) (N := some 100) (v := ?_) (a' := ?_) #[true, true, true, true, true, true, true, false, false, false, false] rfl rfl (take_ofW HT_.out HW_.out (by kernel_rfl)) (fun _ _ _ h => h) (Or.inl ⟨by rfl, ?_⟩) hHeld ?_ ?_
                  rotate_left
                  ·rintro w' ⟨s0, s1, s2⟩
                   go_simp
                   with_reducible rfl
                  rotate_left
                  ·simp only [Act.put, List.setIfInBounds_toArray, List.set_cons_zero, List.set_cons_succ, i64_w, i32_w]
                   rfl
                  refine pure_ (i := 7) (N := some 101) (v := ?_) (a' := ?_) #[x_, x_, x_, x_, x_, x_, x_, x_, o_, o_, o_] rfl rfl (any_of HT_.out (by kernel_rfl)) (fun _ _ _ h => h) (Or.inl ⟨by rfl, ?_⟩) ?_ ?_; rotate_left; (·(intro w'; go_simp <;> with_reducible rfl)); rotate_left; (·(simp only [Act.put, List.setIfInBounds_toArray, List.set_cons_zero, List.set_cons_succ, i64_w, i32_w] <;> rfl))
                  refine pure_ (i := 8) (N := some 102) (v := ?_) (a' := ?_) #[x_, x_, x_, x_, x_, x_, x_, x_, x_, o_, o_] rfl rfl (any_of HT_.out (by kernel_rfl)) (fun _ _ _ h => h) (Or.inl ⟨by rfl, ?_⟩) ?_ ?_; rotate_left; (·(intro w'; go_simp <;> with_reducible rfl)); rotate_left; (·(simp only [Act.put, List.setIfInBounds_toArray, List.set_cons_zero, List.set_cons_succ, i64_w, i32_w] <;> rfl))
                  refine pure_ (i := 9) (N := some 103) (v := ?_) (a' := ?_) #[x_, x_, x_, x_, x_, x_, x_, x_, x_, x_, o_] rfl rfl (any_of HT_.out (by kernel_rfl)) (fun _ _ _ h => h) (Or.inl ⟨by rfl, ?_⟩) ?_ ?_; rotate_left; (·(intro w'; go_simp <;> with_reducible rfl)); rotate_left; (·(simp only [Act.put, List.setIfInBounds_toArray, List.set_cons_zero, List.set_cons_succ, i64_w, i32_w] <;> rfl))
                  refine pure_ (i := 10) (N := some 15) (v := ?_) (a' := ?_) #[x_, x_, x_, x_, x_, x_, x_, x_, x_, x_, x_] rfl rfl (any_of HT_.out (by kernel_rfl)) (fun _ _ _ h => h) (Or.inl ⟨by rfl, ?_⟩) ?_ ?_; rotate_left; (·(intro w'; go_simp <;> with_reducible rfl)); rotate_left; (·(simp only [Act.put, List.setIfInBounds_toArray, List.set_cons_zero, List.set_cons_succ, i64_w, i32_w] <;> rfl))
                  refine done_ (done_of HT_.out (by kernel_rfl)) ?_
                  have hcz36_0 : w35.cell? ⟨gb372, 0, none⟩ = some (.int .i64 ((rd_T35 t360 x12_2).f0)) := (blk_cell BK372.out 0).trans rfl
                  have hcz36_1 : w35.cell? ⟨gb372, 1, none⟩ = some (.int .i64 ((rd_T35 t360 x12_2).f1)) := (blk_cell BK372.out 1).trans rfl
                  have hcz36_2 : w35.cell? ⟨gb372, 2, none⟩ = some (.int .i64 ((rd_T35 t360 x12_2).f2)) := (blk_cell BK372.out 2).trans rfl
                  have hfz36_0 := blk_frozen BK372.out 0
                  have hfz36_1 := blk_frozen BK372.out 1
                  have hfz36_2 := blk_frozen BK372.out 2
                  try go_wp2_with (first | ((with_reducible refine gate_dst (N := 118) rfl ?_); refine Kd.R_lit k35 _ 35 ?hg (N := 118) ?hd (xs := ([(⟨((rd_T35 t360 x12_2).f0), wrap64 (((rd_T35 t360 x12_2).f0) + (Int.tmod x14_18 (wrap64 (((rd_T35 t360 x12_2).f1) - ((rd_T35 t360 x12_2).f0))))), ((rd_T35 t360 x12_2).f2)⟩ : S35), (⟨wrap64 ((wrap64 (((rd_T35 t360 x12_2).f0) + (Int.tmod x14_18 (wrap64 (((rd_T35 t360 x12_2).f1) - ((rd_T35 t360 x12_2).f0)))))) + 1), ((rd_T35 t360 x12_2).f1), ((rd_T35 t360 x12_2).f2)⟩ : S35)] : List (S35))) (inner := [.int .i64 ((rd_T35 t360 x12_2).f0), .int .i64 (wrap64 (((rd_T35 t360 x12_2).f0) + (Int.tmod x14_18 (wrap64 (((rd_T35 t360 x12_2).f1) - ((rd_T35 t360 x12_2).f0)))))), .int .i64 ((rd_T35 t360 x12_2).f2), .int .i64 (wrap64 ((wrap64 (((rd_T35 t360 x12_2).f0) + (Int.tmod x14_18 (wrap64 (((rd_T35 t360 x12_2).f1) - ((rd_T35 t360 x12_2).f0)))))) + 1)), .int .i64 ((rd_T35 t360 x12_2).f1), .int .i64 ((rd_T35 t360 x12_2).f2)]) (ok := fun _ => True) (okp := fun _ => True) ?hr ?hp (fun _ hk => hk) trivial (Below.refl _ _) (Nat.le_refl _) (by simp) ?_; (case hd => rfl); (case hg => rfl); (case hr => first | (go_simp; done) | (go_simp; rfl)); (case hp => exact (Reps.c3 (show Kd.M k35 _ _ _ (⟨((rd_T35 t360 x12_2).f0), wrap64 (((rd_T35 t360 x12_2).f0) + (Int.tmod x14_18 (wrap64 (((rd_T35 t360 x12_2).f1) - ((rd_T35 t360 x12_2).f0))))), ((rd_T35 t360 x12_2).f2)⟩ : S35) [.int .i64 ((rd_T35 t360 x12_2).f0), .int .i64 (wrap64 (((rd_T35 t360 x12_2).f0) + (Int.tmod x14_18 (wrap64 (((rd_T35 t360 x12_2).f1) - ((rd_T35 t360 x12_2).f0)))))), .int .i64 ((rd_T35 t360 x12_2).f2)] from (k35_mkM _ _ _ (⟨((rd_T35 t360 x12_2).f0), wrap64 (((rd_T35 t360 x12_2).f0) + (Int.tmod x14_18 (wrap64 (((rd_T35 t360 x12_2).f1) - ((rd_T35 t360 x12_2).f0))))), ((rd_T35 t360 x12_2).f2)⟩ : S35) )) (Reps.c3 (show Kd.M k35 _ _ _ (⟨wrap64 ((wrap64 (((rd_T35 t360 x12_2).f0) + (Int.tmod x14_18 (wrap64 (((rd_T35 t360 x12_2).f1) - ((rd_T35 t360 x12_2).f0)))))) + 1), ((rd_T35 t360 x12_2).f1), ((rd_T35 t360 x12_2).f2)⟩ : S35) [.int .i64 (wrap64 ((wrap64 (((rd_T35 t360 x12_2).f0) + (Int.tmod x14_18 (wrap64 (((rd_T35 t360 x12_2).f1) - ((rd_T35 t360 x12_2).f0)))))) + 1)), .int .i64 ((rd_T35 t360 x12_2).f1), .int .i64 ((rd_T35 t360 x12_2).f2)] from (k35_mkM _ _ _ (⟨wrap64 ((wrap64 (((rd_T35 t360 x12_2).f0) + (Int.tmod x14_18 (wrap64 (((rd_T35 t360 x12_2).f1) - ((rd_T35 t360 x12_2).f0)))))) + 1), ((rd_T35 t360 x12_2).f1), ((rd_T35 t360 x12_2).f2)⟩ : S35) )) (Reps.none _ _)))); intro v378 w37 ho38 hb hg_ hnew_; clear hg_ hnew_; (first | rw [← Ny377.out] at ho38 | (simp only [Int.reduceToNat] at ho38; rw [← Ny377.out] at ho38)); have n0_ := Aside0.mk (Kd.R_elder' (by (with_reducible repeat (first | apply Kd.R_alloc | apply Kd.R_drewN | apply Kd.R_drew)); first | exact HO_0.out | exact Kd.R_mono HO_0.out (fun _ hk => ⟨hk.1, (by first | exact hk.2 | exact fun e_ => hk.2 (e_.trans (own_len _ _ _ _ _)))⟩)) (Kd.R_base ho38) hb); have n1_ := Aside0.mk (Kd.P_below (by (with_reducible repeat (first | apply Kd.P_alloc | apply Kd.P_drewN | apply Kd.P_drew)); exact HO_7.out) hb); have n2_ := Aside0.mk (Kd.R_elder' (by (with_reducible repeat (first | apply Kd.R_alloc | apply Kd.R_drewN | apply Kd.R_drew)); first | exact HO376.out | exact Kd.R_mono HO376.out (fun _ hk => ⟨(by first | exact hk.1 | exact fun e_ => hk.1 (e_.trans (own_len _ _ _ _ _))), hk.2⟩)) (Kd.R_base ho38) hb); have n3_ := Aside0.mk (Kd.R_lower (Kd.R_newB (Kd.R_new' (Kd.R_new' ho38 (Kd.R_lt (by (with_reducible repeat (first | apply Kd.R_alloc | apply Kd.R_drewN | apply Kd.R_drew)); first | exact HO_0.out | exact Kd.R_mono HO_0.out (fun _ hk => ⟨hk.1, (by first | exact hk.2 | exact fun e_ => hk.2 (e_.trans (own_len _ _ _ _ _)))⟩)))) (Kd.R_lt (by (with_reducible repeat (first | apply Kd.R_alloc | apply Kd.R_drewN | apply Kd.R_drew)); first | exact HO376.out | exact Kd.R_mono HO376.out (fun _ hk => ⟨(by first | exact hk.1 | exact fun e_ => hk.1 (e_.trans (own_len _ _ _ _ _))), hk.2⟩)))) (g := gb372) (o := .cells #[.int .i64 ((rd_T35 t360 x12_2).f0), .int .i64 ((rd_T35 t360 x12_2).f1), .int .i64 ((rd_T35 t360 x12_2).f2)] 35 (0, 0)) (by (with_reducible repeat (first | refine blk_drewN ?_ _ | refine blk_drew ?_ | refine blk_alloc ?_ _)); exact BK372.out)) (below_size (by repeat (first | (with_reducible first | exact HB.out | apply below_alloc | apply pw_below_drewN | apply below_drew1 | refine below_set ?_ GE372.out) | exact HB.out)))); have n4_ := Aside0.mk (blk_below (g := gb372) (o := .cells #[.int .i64 ((rd_T35 t360 x12_2).f0), .int .i64 ((rd_T35 t360 x12_2).f1), .int .i64 ((rd_T35 t360 x12_2).f2)] 35 (0, 0)) (by (with_reducible repeat (first | refine blk_drewN ?_ _ | refine blk_drew ?_ | refine blk_alloc ?_ _)); exact BK372.out) hb); have n5_ := Aside0.mk (below_step (by repeat (first | (with_reducible first | exact HB.out | apply below_alloc | apply pw_below_drewN | apply below_drew1 | refine below_set ?_ GE372.out) | exact HB.out)) hb); clear HO_0; clear HO_7; clear HO376; clear BK372; clear HB; have HO_0 := n0_; have HO_7 := n1_; have HO376 := n2_; have HO379 := n3_; have BK372 := n4_; have HB := n5_; clear n0_ n1_ n2_ n3_ n4_ n5_; clear hb ho38; obtain ⟨Ao40, co40, eo40⟩ := Kd.R_slice HO379.out; subst eo40) | ((with_reducible refine gate_builtin (b := .append) (xs := #[.tmp 104, .tmp 118]) rfl ?_); at_builtin; refine Kd.R_append_rows k35 (w0 := w) w.heap.size rfl (.tmp 104) (.tmp 118) 22 35 (.agg #[(.int .i64 0), (.int .i64 0), (.int .i64 0)]) 24 rfl Try.underlying22 info35 rfl (by decide) (by omega) v375 y374 y377 _ _ _ (fun k_ => some k_ ≠ (.slice (some ad371) t360.length co8 : Value).ownBlock ∧ some k_ ≠ (.slice Ao40 y377.length co40 : Value).ownBlock ∧ k_ ≠ gb372) (fun _ => False) rfl rfl ?aO ?aR (fun _ _ h => h) (fun _ h => h.elim) ?aF ?aB ?aS ?aL ?_; (case aR => repeat (first | exact (Kd.R_reads' HO379.out).2.2 | (with_reducible refine Kd.C_alloc ?_ _) | (with_reducible refine Kd.C_drewN ?_ _) | (with_reducible refine Kd.C_drew ?_))); (case aB => exact (by repeat (first | (with_reducible first | exact HB.out | apply below_alloc | apply pw_below_drewN | apply below_drew1 | refine below_set ?_ GE372.out) | exact HB.out))); (case aF => exact (fun k_ hk => ⟨Kd.fresh' (Kd.R_lt (by (with_reducible repeat (first | apply Kd.R_alloc | apply Kd.R_drewN | apply Kd.R_drew)); first | exact HO_0.out | exact Kd.R_mono HO_0.out (fun _ hk => ⟨⟨hk.1.1, (by first | exact hk.1.2 | exact fun e_ => hk.1.2 (e_.trans (own_len _ _ _ _ _)))⟩, (by first | exact hk.2 | exact fun e_ => hk.2 (e_.trans (own_len _ _ _ _ _)))⟩))) k_ hk, Kd.fresh' (Kd.R_lt (by (with_reducible repeat (first | apply Kd.R_alloc | apply Kd.R_drewN | apply Kd.R_drew)); first | exact HO379.out | exact Kd.R_mono HO379.out (fun _ hk => ⟨⟨⟨trivial, (by first | exact hk.1.1.2 | exact fun e_ => hk.1.1.2 (e_.trans (own_len _ _ _ _ _)))⟩, (by first | exact hk.1.2 | exact fun e_ => hk.1.2 (e_.trans (own_len _ _ _ _ _)))⟩, hk.2⟩))) k_ hk, Kd.freshB (g := gb372) (o := .cells #[.int .i64 ((rd_T35 t360 x12_2).f0), .int .i64 ((rd_T35 t360 x12_2).f1), .int .i64 ((rd_T35 t360 x12_2).f2)] 35 (0, 0)) (by (with_reducible repeat (first | refine blk_drewN ?_ _ | refine blk_drew ?_ | refine blk_alloc ?_ _)); exact BK372.out) k_ hk⟩)); (case aO => exact (by (with_reducible repeat (first | apply Kd.R_alloc | apply Kd.R_drewN | apply Kd.R_drew)); first | exact Kd.R_mono HO376.out (fun _ hk => ⟨hk.1.1, ⟨hk.2, hk.1.2⟩⟩) | exact Kd.R_mono HO376.out (fun _ hk => ⟨(by first | exact hk.1.1 | exact fun e_ => hk.1.1 (e_.trans (own_len _ _ _ _ _))), ⟨(by first | exact hk.2 | exact fun e_ => hk.2 (e_.trans (own_len _ _ _ _ _))), hk.1.2⟩⟩))); (case aS => exact (below_size (by repeat (first | (with_reducible first | exact HB.out | apply below_alloc | apply pw_below_drewN | apply below_drew1 | refine below_set ?_ GE372.out) | exact HB.out)))); (case aL => have := LMc31.out; omega); intro v381 w39 ho hb hg hat; rw [← Ny380.out] at ho; have n0_ := Aside0.mk (Kd.R_after (ok := (fun k_ => some k_ ≠ (.slice Ao40 y377.length co40 : Value).ownBlock ∧ k_ ≠ gb372)) (by (with_reducible repeat (first | apply Kd.R_alloc | apply Kd.R_drewN | apply Kd.R_drew)); first | exact Kd.R_mono HO_0.out (fun _ hk => ⟨⟨hk.2, hk.1.1⟩, hk.1.2⟩) | exact Kd.R_mono HO_0.out (fun _ hk => ⟨⟨(by first | exact hk.2 | exact fun e_ => hk.2 (e_.trans (own_len _ _ _ _ _))), hk.1.1⟩, (by first | exact hk.1.2 | exact fun e_ => hk.1.2 (e_.trans (own_len _ _ _ _ _)))⟩)) hg hat); have n1_ := Aside0.mk (Kd.P_over' (by (with_reducible repeat (first | apply Kd.P_alloc | apply Kd.P_drewN | apply Kd.P_drew)); exact HO_7.out) (Kd.R_typed (by (with_reducible repeat (first | apply Kd.R_alloc | apply Kd.R_drewN | apply Kd.R_drew)); first | exact HO376.out | exact Kd.R_mono HO376.out (fun _ hk => ⟨⟨(by first | exact hk.1.1 | exact fun e_ => hk.1.1 (e_.trans (own_len _ _ _ _ _))), hk.1.2⟩, (by first | exact hk.2 | exact fun e_ => hk.2 (e_.trans (own_len _ _ _ _ _)))⟩))) (by decide) hg); have n2_ := Aside0.mk (blk_grown (g := gb372) (o := .cells #[.int .i64 ((rd_T35 t360 x12_2).f0), .int .i64 ((rd_T35 t360 x12_2).f1), .int .i64 ((rd_T35 t360 x12_2).f2)] 35 (0, 0)) (by (with_reducible repeat (first | refine blk_drewN ?_ _ | refine blk_drew ?_ | refine blk_alloc ?_ _)); exact BK372.out) hg (Kd.R_away HO376.out (fun _ hk => hk.1.2))); have n3_ := Aside0.mk (Kd.R_after (ok := (fun k_ => some k_ ≠ (.slice (some ad371) t360.length co8 : Value).ownBlock ∧ k_ ≠ gb372)) (by (with_reducible repeat (first | apply Kd.R_alloc | apply Kd.R_drewN | apply Kd.R_drew)); first | exact Kd.R_mono HO379.out (fun _ hk => ⟨⟨hk.1.1.2, hk.2⟩, hk.1.2⟩) | exact Kd.R_mono HO379.out (fun _ hk => ⟨⟨(by first | exact hk.1.1.2 | exact fun e_ => hk.1.1.2 (e_.trans (own_len _ _ _ _ _))), hk.2⟩, (by first | exact hk.1.2 | exact fun e_ => hk.1.2 (e_.trans (own_len _ _ _ _ _)))⟩)) hg hat); have n4_ := Aside0.mk (hb); have n5_ := Aside0.mk (ho); clear HO_0; clear HO_7; clear BK372; clear HO379; clear HB; clear HO376; have HO_0 := n0_; have HO_7 := n1_; have BK372 := n2_; have HO379 := n3_; have HB := n4_; have HO382 := n5_; clear n0_ n1_ n2_ n3_ n4_ n5_; clear ho hb hg hat; have hcz41_0 : w39.cell? ⟨gb372, 0, none⟩ = some (.int .i64 ((rd_T35 t360 x12_2).f0)) := (blk_cell BK372.out 0).trans rfl; have hcz41_1 : w39.cell? ⟨gb372, 1, none⟩ = some (.int .i64 ((rd_T35 t360 x12_2).f1)) := (blk_cell BK372.out 1).trans rfl; have hcz41_2 : w39.cell? ⟨gb372, 2, none⟩ = some (.int .i64 ((rd_T35 t360 x12_2).f2)) := (blk_cell BK372.out 2).trans rfl; have hfz41_0 := blk_frozen BK372.out 0; have hfz41_1 := blk_frozen BK372.out 1; have hfz41_2 := blk_frozen BK372.out 2))
                  go_roundg kj22
                  case measure => have := HJ5.out; have := HK2.out; have := HJ18.out; have := HJ22.out; omega
                  case rel => exact ⟨(y380), (wrap64 (((rd_T35 t360 x12_2).f1) + 1)), (wrap64 (x12_2 + 1)), (by first | rfl | (simp; done) | (simp [*]; done)), (by first | rfl | (simp; done) | (simp [*]; done)), H', ⟨by have := HJ5.out; have := HK2.out; have := HJ18.out; have := HJ22.out; omega⟩, ⟨by (with_reducible repeat (first | apply Kd.R_alloc | apply Kd.R_drewN | apply Kd.R_drew)); first | exact Kd.R_mono HO_0.out (fun _ hk => hk.2) | exact Kd.R_mono HO_0.out (fun _ hk => (by first | exact hk.2 | exact fun e_ => hk.2 (e_.trans (own_len _ _ _ _ _))))⟩, ⟨by (with_reducible repeat (first | apply Kd.P_alloc | apply Kd.P_drewN | apply Kd.P_drew)); exact HO_7.out⟩, ⟨by (with_reducible repeat (first | apply Kd.R_alloc | apply Kd.R_drewN | apply Kd.R_drew)); first | exact Kd.R_mono HO382.out (fun _ hk => hk.1) | exact Kd.R_mono HO382.out (fun _ hk => (by first | exact hk.1 | exact fun e_ => hk.1 (e_.trans (own_len _ _ _ _ _))))⟩, ⟨by repeat (first | (with_reducible first | exact HB.out | apply below_alloc | apply pw_below_drewN | apply below_drew1 | refine below_set ?_ GE372.out) | exact HB.out)⟩⟩
                 ·rw [if_neg c31] at H
                  exact absurd H (by simp)
               ·rw [if_neg c29] at H
                have c29b0 : decide (((rd_T35 t360 x12_2).f0) < ((rd_T35 t360 x12_2).f1)) = false := decide_eq_false c29
                clear c29
                by_cases c42 : y374.length < 5864062014805
                ·rw [if_pos c42] at H
                 have LMc42 := Aside0.mk c42
                 clear c42
                 obtain ⟨y383, hy383⟩ : ∃ y_ : List (S35), y_ = (y374 ++ [(⟨((rd_T35 t360 x12_2).f0), ((rd_T35 t360 x12_2).f1), ((rd_T35 t360 x12_2).f2)⟩ : S35)]) := ⟨_, rfl⟩
                 replace H : (endonymlaw4_TrieCut.l0 kj22 t360 a1 l2 t365 y383 (wrap64 (((rd_T35 t360 x12_2).f1) + 1)) (wrap64 (x12_2 + 1))) = some true := by first | (rw [hy383]; with_reducible exact H) | (have H2_ := (Option.bind_some _ _).symm.trans H; rw [hy383]; with_reducible exact H2_) | (have H2_ := (Option.bind_some _ _).symm.trans H; with_reducible exact H2_) | with_reducible exact H | (rw [hy383]; exact H) | exact H
                 have Ny383 := Aside0.mk hy383
                 clear hy383
                 have H' := Aside0.mk H
                 clear H
                 try go_wp2
                 have n0_ := Aside0.mk (Kd.R_drew HO_0.out)
                 have n1_ := Aside0.mk (Kd.P_drew HO_7.out)
                 have n2_ := Aside0.mk (Kd.R_drew HO_10.out)
                 have n3_ := Aside0.mk (blk_drew BK372.out)
                 have n4_ := Aside0.mk (below_drew1 HB.out)
                 clear HO_0
                 clear HO_7
                 clear HO_10
                 clear BK372
                 clear HB
                 have HO_0 := n0_
                 have HO_7 := n1_
                 have HO_10 := n2_
                 have BK372 := n3_
                 have HB := n4_
                 clear n0_ n1_ n2_ n3_ n4_
                 refine start_ (n := 17) (S := fun w' => w'.cell? ⟨gb372, 0, none⟩ = some (.int .i64 ((rd_T35 t360 x12_2).f0)) ∧ w'.cell? ⟨gb372, 1, none⟩ = some (.int .i64 ((rd_T35 t360 x12_2).f1)) ∧ w'.cell? ⟨gb372, 2, none⟩ = some (.int .i64 ((rd_T35 t360 x12_2).f2))) (ds := []) #[false, false, false, false, false, false, false, false, false, false, false, false, false, false, false, false, false] (by kernel_rfl) rfl rfl ⟨(blk_cell BK372.out 0).trans rfl, (blk_cell BK372.out 1).trans rfl, (blk_cell BK372.out 2).trans rfl⟩ (fun hHeld => ?_); refine with_tabW endonymlaw4_TrieCut.tab15 endonymlaw4_TrieCut.bits15 (fun HT_ HW_ => ?_)
                 generalize wc.drew = w43 at HO_0 HO_7 HO_10 BK372 HB hHeld ⊢
                 refine pure_ (i := 0) (N := some 73) (v := ?_) (a' := ?_) #[x_, o_, o_, o_, o_, o_, o_, o_, o_, o_, o_, o_, o_, o_, o_, o_, o_] rfl rfl (any_of HT_.out (by kernel_rfl)) (fun _ _ _ h => h) (Or.inl ⟨by rfl, ?_⟩) ?_ ?_; rotate_left; (·(intro w'; go_simp <;> with_reducible rfl)); rotate_left; (·(simp only [Act.put, List.setIfInBounds_toArray, List.set_cons_zero, List.set_cons_succ, i64_w, i32_w] <;> rfl))
                 refine pure_ (i := 1) (N := some 74) (v := ?_) (a' := ?_) #[x_, x_, o_, o_, o_, o_, o_, o_, o_, o_, o_, o_, o_, o_, o_, o_, o_] rfl rfl (any_of HT_.out (by kernel_rfl)) (fun _ _ _ h => h) (Or.inl ⟨by rfl, ?_⟩) ?_ ?_; rotate_left; (·(intro w'; go_simp <;> with_reducible rfl)); rotate_left; (·(simp only [Act.put, List.setIfInBounds_toArray, List.set_cons_zero, List.set_cons_succ, i64_w, i32_w] <;> rfl))
                 refine pure_ (i := 2) (N := some 75) (v := ?_) (a' := ?_) #[x_, x_, x_, o_, o_, o_, o_, o_, o_, o_, o_, o_, o_, o_, o_, o_, o_] rfl rfl (any_of HT_.out (by kernel_rfl)) (fun _ _ _ h => h) (Or.inl ⟨by rfl, ?_⟩) ?_ ?_; rotate_left; (·(intro w'; go_simp <;> with_reducible rfl)); rotate_left; (·(simp only [Act.put, List.setIfInBounds_toArray, List.set_cons_zero, List.set_cons_succ, i64_w, i32_w] <;> rfl))
                 refine pure_ (i := 3) (N := some 76) (v := ?_) (a' := ?_) #[x_, x_, x_, x_, o_, o_, o_, o_, o_, o_, o_, o_, o_, o_, o_, o_, o_] rfl rfl (any_of HT_.out (by kernel_rfl)) (fun _ _ _ h => h) (Or.inl ⟨by rfl, ?_⟩) ?_ ?_; rotate_left; (·(intro w'; go_simp <;> with_reducible rfl)); rotate_left; (·(simp only [Act.put, List.setIfInBounds_toArray, List.set_cons_zero, List.set_cons_succ, i64_w, i32_w] <;> rfl))
                 refine pure_ (i := 5) (N := some 78) (v := ?_) (a' := ?_) #[x_, x_, x_, x_, o_, x_, o_, o_, o_, o_, o_, o_, o_, o_, o_, o_, o_] rfl rfl (any_of HT_.out (by kernel_rfl)) (fun _ _ _ h => h) (Or.inl ⟨by rfl, ?_⟩) ?_ ?_; rotate_left; (·(intro w'; go_simp <;> with_reducible rfl)); rotate_left; (·(simp only [Act.put, List.setIfInBounds_toArray, List.set_cons_zero, List.set_cons_succ, i64_w, i32_w] <;> rfl))
                 refine pure_ (i := 9) (N := some 82) (v := ?_) (a' := ?_) #[x_, x_, x_, x_, o_, x_, o_, o_, o_, x_, o_, o_, o_, o_, o_, o_, o_] rfl rfl (any_of HT_.out (by kernel_rfl)) (fun _ _ _ h => h) (Or.inl ⟨by rfl, ?_⟩) ?_ ?_; rotate_left; (·(intro w'; go_simp <;> with_reducible rfl)); rotate_left; (·(simp only [Act.put, List.setIfInBounds_toArray, List.set_cons_zero, List.set_cons_succ, i64_w, i32_w] <;> rfl))
                 refine pure_ (i := 12) (N := some 85) (v := ?_) (a' := ?_) #[x_, x_, x_, x_, o_, x_, o_, o_, o_, x_, o_, o_, x_, o_, o_, o_, o_] rfl rfl (any_of HT_.out (by kernel_rfl)) (fun _ _ _ h => h) (Or.inl ⟨by rfl, ?_⟩) ?_ ?_; rotate_left; (·(intro w'; go_simp <;> with_reducible rfl)); rotate_left; (·(simp only [Act.put, List.setIfInBounds_toArray, List.set_cons_zero, List.set_cons_succ, i64_w, i32_w] <;> rfl))
                 refine take_ (i := 4) (N := some 77) (v := ?_) (a' := ?_) #[true, true, true, true, true, true, false, false, false, true, false, false, true, false, false, false, false] rfl rfl (take_ofW HT_.out HW_.out (by kernel_rfl)) (fun _ _ _ h => h) (Or.inl ⟨by rfl, ?_⟩) hHeld ?_ ?_
                 rotate_left
                 ·rintro w' ⟨s0, s1, s2⟩
                  go_simp
                  with_reducible rfl
                 rotate_left
                 ·simp only [Act.put, List.setIfInBounds_toArray, List.set_cons_zero, List.set_cons_succ, i64_w, i32_w]
                  rfl
                 refine pure_ (i := 6) (N := some 79) (v := ?_) (a' := ?_) #[x_, x_, x_, x_, x_, x_, x_, o_, o_, x_, o_, o_, x_, o_, o_, o_, o_] rfl rfl (any_of HT_.out (by kernel_rfl)) (fun _ _ _ h => h) (Or.inl ⟨by rfl, ?_⟩) ?_ ?_; rotate_left; (·(intro w'; go_simp <;> with_reducible rfl)); rotate_left; (·(simp only [Act.put, List.setIfInBounds_toArray, List.set_cons_zero, List.set_cons_succ, i64_w, i32_w] <;> rfl))
                 refine pure_ (i := 7) (N := some 80) (v := ?_) (a' := ?_) #[x_, x_, x_, x_, x_, x_, x_, x_, o_, x_, o_, o_, x_, o_, o_, o_, o_] rfl rfl (any_of HT_.out (by kernel_rfl)) (fun _ _ _ h => h) (Or.inl ⟨by rfl, ?_⟩) ?_ ?_; rotate_left; (·(intro w'; go_simp <;> with_reducible rfl)); rotate_left; (·(simp only [Act.put, List.setIfInBounds_toArray, List.set_cons_zero, List.set_cons_succ, i64_w, i32_w] <;> rfl))
                 refine pure_ (i := 8) (N := some 81) (v := ?_) (a' := ?_) #[x_, x_, x_, x_, x_, x_, x_, x_, x_, x_, o_, o_, x_, o_, o_, o_, o_] rfl rfl (any_of HT_.out (by kernel_rfl)) (fun _ _ _ h => h) (Or.inl ⟨by rfl, ?_⟩) ?_ ?_; rotate_left; (·(intro w'; go_simp <;> with_reducible rfl)); rotate_left; (·(simp only [Act.put, List.setIfInBounds_toArray, List.set_cons_zero, List.set_cons_succ, i64_w, i32_w] <;> rfl))
                 refine take_ (i := 10) (N := some 83) (v := ?_) (a' := ?_) #[true, true, true, true, true, true, true, true, true, true, true, false, true, false, false, false, false] rfl rfl (take_ofW HT_.out HW_.out (by kernel_rfl)) (fun _ _ _ h => h) (Or.inl ⟨by rfl, ?_⟩) hHeld ?_ ?_
                 rotate_left
                 ·rintro w' ⟨s0, s1, s2⟩
                  go_simp
                  with_reducible rfl
                 rotate_left
                 ·simp only [Act.put, List.setIfInBounds_toArray, List.set_cons_zero, List.set_cons_succ, i64_w, i32_w]
                  rfl
                 refine pure_ (i := 11) (N := some 84) (v := ?_) (a' := ?_) #[x_, x_, x_, x_, x_, x_, x_, x_, x_, x_, x_, x_, x_, o_, o_, o_, o_] rfl rfl (any_of HT_.out (by kernel_rfl)) (fun _ _ _ h => h) (Or.inl ⟨by rfl, ?_⟩) ?_ ?_; rotate_left; (·(intro w'; go_simp <;> with_reducible rfl)); rotate_left; (·(simp only [Act.put, List.setIfInBounds_toArray, List.set_cons_zero, List.set_cons_succ, i64_w, i32_w] <;> rfl))
                 refine pure_ (i := 13) (N := some 86) (v := ?_) (a' := ?_) #[x_, x_, x_, x_, x_, x_, x_, x_, x_, x_, x_, x_, x_, x_, o_, o_, o_] rfl rfl (any_of HT_.out (by kernel_rfl)) (fun _ _ _ h => h) (Or.inl ⟨by rfl, ?_⟩) ?_ ?_; rotate_left; (·(intro w'; go_simp <;> with_reducible rfl)); rotate_left; (·(simp only [Act.put, List.setIfInBounds_toArray, List.set_cons_zero, List.set_cons_succ, i64_w, i32_w] <;> rfl))
                 refine one_ (i := 14) (N := some 87) #[true, true, true, true, true, true, true, true, true, true, true, true, true, true, true, false, false] rfl rfl (one_of HT_.out (by kernel_rfl)) (by decide) (fun K hK => ?_)
                 refine value_ (w1 := ?_) (v := ?_) (by rfl) rfl ?_ ?_
                 rotate_left 2
                 ·go_simp
                  constructor
                  ·rfl
                  ·rfl
                 refine hK.out _ _ ⟨(blk_cell (blk_alloc BK372.out _) 0).trans rfl, (blk_cell (blk_alloc BK372.out _) 1).trans rfl, (blk_cell (blk_alloc BK372.out _) 2).trans rfl⟩ (fun hHeld => ?_)
                 clear hK K
                 refine norm_ (a' := ?_) ?_ ?_
                 rotate_left
                 ·show Act.put _ (some 87) _ = _
                  simp only [Act.put, List.setIfInBounds_toArray, List.set_cons_zero, List.set_cons_succ, i64_w, i32_w]
                  rfl
                 refine one_ (i := 15) (N := some 88) #[true, true, true, true, true, true, true, true, true, true, true, true, true, true, true, true, false] rfl rfl (one_of HT_.out (by kernel_rfl)) (by decide) (fun K hK => ?_)
                 refine Kd.R_append_step k35 (w0 := w) w.heap.size (by rfl) (.tmp 73) (.tmp 87) 22 35 (.agg #[(.int .i64 0), (.int .i64 0), (.int .i64 0)]) 24 rfl Try.underlying22 info35 rfl (by decide) (by omega) u10 x10_2 (⟨wrap64 (x11_2 + (Int.tmod x14_18 (wrap64 (((rd_T35 t360 x12_2).f0) - x11_2)))), wrap64 (((rd_T35 t360 x12_2).f0) - 1), a1⟩ : S35) [.int .i64 (wrap64 (x11_2 + (Int.tmod x14_18 (wrap64 (((rd_T35 t360 x12_2).f0) - x11_2))))), .int .i64 (wrap64 (((rd_T35 t360 x12_2).f0) - 1)), .int .i64 a1] (fun k_ => some k_ ≠ (.slice (some ad371) t360.length co8 : Value).ownBlock ∧ k_ ≠ gb372) (fun _ => False) rfl rfl ?aP (fun _ hk => hk.elim) ?aF ?aO ?aB ?aS ?aL ?_
                 (case aP => exact k35_mkM _ _ _ (⟨wrap64 (x11_2 + (Int.tmod x14_18 (wrap64 (((rd_T35 t360 x12_2).f0) - x11_2)))), wrap64 (((rd_T35 t360 x12_2).f0) - 1), a1⟩ : S35))
                 (case aB => exact (by repeat (first | (with_reducible first | exact HB.out | apply below_alloc | apply pw_below_drewN | apply below_drew1 | refine below_set ?_ GE372.out) | exact HB.out)))
                 (case aF => exact (fun k_ hk => ⟨Kd.fresh' (Kd.R_lt (by (with_reducible repeat (first | apply Kd.R_alloc | apply Kd.R_drewN | apply Kd.R_drew)); first | exact HO_0.out | exact Kd.R_mono HO_0.out (fun _ hk => ⟨(by first | exact hk.1 | exact fun e_ => hk.1 (e_.trans (own_len _ _ _ _ _))), hk.2⟩))) k_ hk, Kd.freshB (g := gb372) (o := .cells #[.int .i64 ((rd_T35 t360 x12_2).f0), .int .i64 ((rd_T35 t360 x12_2).f1), .int .i64 ((rd_T35 t360 x12_2).f2)] 35 (0, 0)) (by (with_reducible repeat (first | refine blk_drewN ?_ _ | refine blk_drew ?_ | refine blk_alloc ?_ _)); exact BK372.out) k_ hk⟩))
                 (case aO => exact (by (with_reducible repeat (first | apply Kd.R_alloc | apply Kd.R_drewN | apply Kd.R_drew)); first | exact HO_10.out | exact Kd.R_mono HO_10.out (fun _ hk => ⟨(by first | exact hk.1 | exact fun e_ => hk.1 (e_.trans (own_len _ _ _ _ _))), hk.2⟩)))
                 (case aS => exact (below_size (by repeat (first | (with_reducible first | exact HB.out | apply below_alloc | apply pw_below_drewN | apply below_drew1 | refine below_set ?_ GE372.out) | exact HB.out))))
                 (case aL => have := LMc28.out; omega)
                 intro v375 w44 ho hb hg hat
                 rw [← Ny374.out] at ho
                 have n0_ := Aside0.mk (Kd.R_after (ok := (fun k_ => k_ ≠ gb372)) (by (with_reducible repeat (first | apply Kd.R_alloc | apply Kd.R_drewN | apply Kd.R_drew)); first | exact Kd.R_mono HO_0.out (fun _ hk => ⟨hk.2, hk.1⟩) | exact Kd.R_mono HO_0.out (fun _ hk => ⟨hk.2, (by first | exact hk.1 | exact fun e_ => hk.1 (e_.trans (own_len _ _ _ _ _)))⟩)) hg hat)
                 have n1_ := Aside0.mk (Kd.P_over' (by (with_reducible repeat (first | apply Kd.P_alloc | apply Kd.P_drewN | apply Kd.P_drew)); exact HO_7.out) (Kd.R_typed (by (with_reducible repeat (first | apply Kd.R_alloc | apply Kd.R_drewN | apply Kd.R_drew)); first | exact HO_10.out | exact Kd.R_mono HO_10.out (fun _ hk => ⟨(by first | exact hk.1 | exact fun e_ => hk.1 (e_.trans (own_len _ _ _ _ _))), hk.2⟩))) (by decide) hg)
                 have n2_ := Aside0.mk (blk_grown (g := gb372) (o := .cells #[.int .i64 ((rd_T35 t360 x12_2).f0), .int .i64 ((rd_T35 t360 x12_2).f1), .int .i64 ((rd_T35 t360 x12_2).f2)] 35 (0, 0)) (by (with_reducible repeat (first | refine blk_drewN ?_ _ | refine blk_drew ?_ | refine blk_alloc ?_ _)); exact BK372.out) hg (Kd.R_away HO_10.out (fun _ hk => hk.2)))
                 have n3_ := Aside0.mk (hb)
                 have n4_ := Aside0.mk (ho)
                 clear HO_0
                 clear HO_7
                 clear BK372
                 clear HB
                 clear HO_10
                 have HO_0 := n0_
                 have HO_7 := n1_
                 have BK372 := n2_
                 have HB := n3_
                 have HO376 := n4_
                 clear n0_ n1_ n2_ n3_ n4_
                 clear ho hb hg hat
                 refine hK.out _ _ ⟨(blk_cell BK372.out 0).trans rfl, (blk_cell BK372.out 1).trans rfl, (blk_cell BK372.out 2).trans rfl⟩ (fun hHeld => ?_)
                 clear hK K
                 refine norm_ (a' := ?_) ?_ ?_
                 rotate_left
                 ·show Act.put _ (some 88) _ = _
                  simp only [Act.put, List.setIfInBounds_toArray, List.set_cons_zero, List.set_cons_succ, i64_w, i32_w]
                  rfl
                 refine pure_ (i := 16) (N := some 10) (v := ?_) (a' := ?_) #[x_, x_, x_, x_, x_, x_, x_, x_, x_, x_, x_, x_, x_, x_, x_, x_, x_] rfl rfl (any_of HT_.out (by kernel_rfl)) (fun _ _ _ h => h) (Or.inl ⟨by rfl, ?_⟩) ?_ ?_; rotate_left; (·(intro w'; go_simp <;> with_reducible rfl)); rotate_left; (·(simp only [Act.put, List.setIfInBounds_toArray, List.set_cons_zero, List.set_cons_succ, i64_w, i32_w] <;> rfl))
                 refine done_ (done_of HT_.out (by kernel_rfl)) ?_
                 have hcz45_0 : w44.cell? ⟨gb372, 0, none⟩ = some (.int .i64 ((rd_T35 t360 x12_2).f0)) := (blk_cell BK372.out 0).trans rfl
                 have hcz45_1 : w44.cell? ⟨gb372, 1, none⟩ = some (.int .i64 ((rd_T35 t360 x12_2).f1)) := (blk_cell BK372.out 1).trans rfl
                 have hcz45_2 : w44.cell? ⟨gb372, 2, none⟩ = some (.int .i64 ((rd_T35 t360 x12_2).f2)) := (blk_cell BK372.out 2).trans rfl
                 have hfz45_0 := blk_frozen BK372.out 0
                 have hfz45_1 := blk_frozen BK372.out 1
                 have hfz45_2 := blk_frozen BK372.out 2
                 try go_wp2_with (first | ((with_reducible refine gate_builtin (b := .append) (xs := #[.tmp 120, .tmp 122]) rfl ?_); at_builtin; refine Kd.R_append k35 (w0 := w) w.heap.size rfl (.tmp 120) (.tmp 122) 22 35 (.agg #[(.int .i64 0), (.int .i64 0), (.int .i64 0)]) 24 rfl Try.underlying22 info35 rfl (by decide) (by omega) v375 y374 (⟨((rd_T35 t360 x12_2).f0), ((rd_T35 t360 x12_2).f1), ((rd_T35 t360 x12_2).f2)⟩ : S35) [.int .i64 ((rd_T35 t360 x12_2).f0), .int .i64 ((rd_T35 t360 x12_2).f1), .int .i64 ((rd_T35 t360 x12_2).f2)] (fun k_ => some k_ ≠ (.slice (some ad371) t360.length co8 : Value).ownBlock ∧ k_ ≠ gb372) (fun _ => False) rfl rfl ?aP (fun _ hk => hk.elim) ?aF ?aO ?aB ?aS ?aL ?_; (case aP => exact k35_mkM _ _ _ (⟨((rd_T35 t360 x12_2).f0), ((rd_T35 t360 x12_2).f1), ((rd_T35 t360 x12_2).f2)⟩ : S35)); (case aB => exact (by repeat (first | (with_reducible first | exact HB.out | apply below_alloc | apply pw_below_drewN | apply below_drew1 | refine below_set ?_ GE372.out) | exact HB.out))); (case aF => exact (fun k_ hk => ⟨Kd.fresh' (Kd.R_lt (by (with_reducible repeat (first | apply Kd.R_alloc | apply Kd.R_drewN | apply Kd.R_drew)); first | exact HO_0.out | exact Kd.R_mono HO_0.out (fun _ hk => ⟨hk.1, (by first | exact hk.2 | exact fun e_ => hk.2 (e_.trans (own_len _ _ _ _ _)))⟩))) k_ hk, Kd.freshB (g := gb372) (o := .cells #[.int .i64 ((rd_T35 t360 x12_2).f0), .int .i64 ((rd_T35 t360 x12_2).f1), .int .i64 ((rd_T35 t360 x12_2).f2)] 35 (0, 0)) (by (with_reducible repeat (first | refine blk_drewN ?_ _ | refine blk_drew ?_ | refine blk_alloc ?_ _)); exact BK372.out) k_ hk⟩)); (case aO => exact (by (with_reducible repeat (first | apply Kd.R_alloc | apply Kd.R_drewN | apply Kd.R_drew)); first | exact HO376.out | exact Kd.R_mono HO376.out (fun _ hk => ⟨(by first | exact hk.1 | exact fun e_ => hk.1 (e_.trans (own_len _ _ _ _ _))), hk.2⟩))); (case aS => exact (below_size (by repeat (first | (with_reducible first | exact HB.out | apply below_alloc | apply pw_below_drewN | apply below_drew1 | refine below_set ?_ GE372.out) | exact HB.out)))); (case aL => have := LMc42.out; omega); intro v384 w46 ho hb hg hat; rw [← Ny383.out] at ho; have n0_ := Aside0.mk (Kd.R_after (ok := (fun k_ => k_ ≠ gb372)) (by (with_reducible repeat (first | apply Kd.R_alloc | apply Kd.R_drewN | apply Kd.R_drew)); first | exact HO_0.out | exact Kd.R_mono HO_0.out (fun _ hk => ⟨hk.1, (by first | exact hk.2 | exact fun e_ => hk.2 (e_.trans (own_len _ _ _ _ _)))⟩)) hg hat); have n1_ := Aside0.mk (Kd.P_over' (by (with_reducible repeat (first | apply Kd.P_alloc | apply Kd.P_drewN | apply Kd.P_drew)); exact HO_7.out) (Kd.R_typed (by (with_reducible repeat (first | apply Kd.R_alloc | apply Kd.R_drewN | apply Kd.R_drew)); first | exact HO376.out | exact Kd.R_mono HO376.out (fun _ hk => ⟨(by first | exact hk.1 | exact fun e_ => hk.1 (e_.trans (own_len _ _ _ _ _))), hk.2⟩))) (by decide) hg); have n2_ := Aside0.mk (blk_grown (g := gb372) (o := .cells #[.int .i64 ((rd_T35 t360 x12_2).f0), .int .i64 ((rd_T35 t360 x12_2).f1), .int .i64 ((rd_T35 t360 x12_2).f2)] 35 (0, 0)) (by (with_reducible repeat (first | refine blk_drewN ?_ _ | refine blk_drew ?_ | refine blk_alloc ?_ _)); exact BK372.out) hg (Kd.R_away HO376.out (fun _ hk => hk.2))); have n3_ := Aside0.mk (hb); have n4_ := Aside0.mk (ho); clear HO_0; clear HO_7; clear BK372; clear HB; clear HO376; have HO_0 := n0_; have HO_7 := n1_; have BK372 := n2_; have HB := n3_; have HO385 := n4_; clear n0_ n1_ n2_ n3_ n4_; clear ho hb hg hat; have hcz47_0 : w46.cell? ⟨gb372, 0, none⟩ = some (.int .i64 ((rd_T35 t360 x12_2).f0)) := (blk_cell BK372.out 0).trans rfl; have hcz47_1 : w46.cell? ⟨gb372, 1, none⟩ = some (.int .i64 ((rd_T35 t360 x12_2).f1)) := (blk_cell BK372.out 1).trans rfl; have hcz47_2 : w46.cell? ⟨gb372, 2, none⟩ = some (.int .i64 ((rd_T35 t360 x12_2).f2)) := (blk_cell BK372.out 2).trans rfl; have hfz47_0 := blk_frozen BK372.out 0; have hfz47_1 := blk_frozen BK372.out 1; have hfz47_2 := blk_frozen BK372.out 2))
                 go_roundg kj22
                 case measure => have := HJ5.out; have := HK2.out; have := HJ18.out; have := HJ22.out; omega
                 case rel => exact ⟨(y383), (wrap64 (((rd_T35 t360 x12_2).f1) + 1)), (wrap64 (x12_2 + 1)), (by first | rfl | (simp; done) | (simp [*]; done)), (by first | rfl | (simp; done) | (simp [*]; done)), H', ⟨by have := HJ5.out; have := HK2.out; have := HJ18.out; have := HJ22.out; omega⟩, ⟨by (with_reducible repeat (first | apply Kd.R_alloc | apply Kd.R_drewN | apply Kd.R_drew)); first | exact Kd.R_mono HO_0.out (fun _ hk => hk.2) | exact Kd.R_mono HO_0.out (fun _ hk => (by first | exact hk.2 | exact fun e_ => hk.2 (e_.trans (own_len _ _ _ _ _))))⟩, ⟨by (with_reducible repeat (first | apply Kd.P_alloc | apply Kd.P_drewN | apply Kd.P_drew)); exact HO_7.out⟩, ⟨by (with_reducible repeat (first | apply Kd.R_alloc | apply Kd.R_drewN | apply Kd.R_drew)); first | exact Kd.R_mono HO385.out (fun _ hk => hk.1) | exact Kd.R_mono HO385.out (fun _ hk => (by first | exact hk.1 | exact fun e_ => hk.1 (e_.trans (own_len _ _ _ _ _))))⟩, ⟨by repeat (first | (with_reducible first | exact HB.out | apply below_alloc | apply pw_below_drewN | apply below_drew1 | refine below_set ?_ GE372.out) | exact HB.out)⟩⟩
                ·rw [if_neg c42] at H
                 exact absurd H (by simp)
              ·rw [if_neg c28] at H
               exact absurd H (by simp)
            ·replace c26 := Bool.eq_false_iff.mpr c26
             subst c26
             have H1 : (if ((rd_T35 t360 x12_2).f1) > ((rd_T35 t360 x12_2).f0) then (if (wrap64 (((rd_T35 t360 x12_2).f1) - ((rd_T35 t360 x12_2).f0))) = 0 then (none) else ((some (([(⟨((rd_T35 t360 x12_2).f0), wrap64 (((rd_T35 t360 x12_2).f0) + (Int.tmod x14_18 (wrap64 (((rd_T35 t360 x12_2).f1) - ((rd_T35 t360 x12_2).f0))))), ((rd_T35 t360 x12_2).f2)⟩ : S35), (⟨wrap64 ((wrap64 (((rd_T35 t360 x12_2).f0) + (Int.tmod x14_18 (wrap64 (((rd_T35 t360 x12_2).f1) - ((rd_T35 t360 x12_2).f0)))))) + 1), ((rd_T35 t360 x12_2).f1), ((rd_T35 t360 x12_2).f2)⟩ : S35)] : List (S35)) : List (S35))).bind fun y386 => (if x10_2.length + y386.length < 5864062014805 then (endonymlaw4_TrieCut.l0 kj22 t360 a1 l2 t365 (x10_2 ++ y386) (wrap64 (((rd_T35 t360 x12_2).f1) + 1)) (wrap64 (x12_2 + 1))) else (none)))) else (if x10_2.length < 5864062014805 then (endonymlaw4_TrieCut.l0 kj22 t360 a1 l2 t365 (x10_2 ++ [(⟨((rd_T35 t360 x12_2).f0), ((rd_T35 t360 x12_2).f1), ((rd_T35 t360 x12_2).f2)⟩ : S35)]) (wrap64 (((rd_T35 t360 x12_2).f1) + 1)) (wrap64 (x12_2 + 1))) else (none))) = some true := by rw [if_neg (show ¬ (false = true) by decide)] at H; exact H
             clear H
             have H := H1
             clear H1
             by_cases c48 : ((rd_T35 t360 x12_2).f1) > ((rd_T35 t360 x12_2).f0)
             ·rw [if_pos c48] at H
              have c48b0 : decide (((rd_T35 t360 x12_2).f0) < ((rd_T35 t360 x12_2).f1)) = true := decide_eq_true c48
              clear c48
              by_cases c49 : (wrap64 (((rd_T35 t360 x12_2).f1) - ((rd_T35 t360 x12_2).f0))) = 0
              ·rw [if_pos c49] at H
               exact absurd H (by simp)
              ·rw [if_neg c49] at H
               have c49b0 : ((wrap64 (((rd_T35 t360 x12_2).f1) - ((rd_T35 t360 x12_2).f0))) == 0) = false := beq_eq_false_iff_ne.mpr c49
               have c49b1 : ((wrap64 (((rd_T35 t360 x12_2).f1) - ((rd_T35 t360 x12_2).f0))) != 0) = true := bne_iff_ne.mpr c49
               obtain ⟨y386, hy386⟩ : ∃ y_ : List (S35), y_ = (([(⟨((rd_T35 t360 x12_2).f0), wrap64 (((rd_T35 t360 x12_2).f0) + (Int.tmod x14_18 (wrap64 (((rd_T35 t360 x12_2).f1) - ((rd_T35 t360 x12_2).f0))))), ((rd_T35 t360 x12_2).f2)⟩ : S35), (⟨wrap64 ((wrap64 (((rd_T35 t360 x12_2).f0) + (Int.tmod x14_18 (wrap64 (((rd_T35 t360 x12_2).f1) - ((rd_T35 t360 x12_2).f0)))))) + 1), ((rd_T35 t360 x12_2).f1), ((rd_T35 t360 x12_2).f2)⟩ : S35)] : List (S35))) := ⟨_, rfl⟩
               replace H : (if x10_2.length + y386.length < 5864062014805 then (endonymlaw4_TrieCut.l0 kj22 t360 a1 l2 t365 (x10_2 ++ y386) (wrap64 (((rd_T35 t360 x12_2).f1) + 1)) (wrap64 (x12_2 + 1))) else (none)) = some true := by first | (rw [hy386]; with_reducible exact H) | (have H2_ := (Option.bind_some _ _).symm.trans H; rw [hy386]; with_reducible exact H2_) | (have H2_ := (Option.bind_some _ _).symm.trans H; with_reducible exact H2_) | with_reducible exact H | (rw [hy386]; exact H) | exact H
               have Ny386 := Aside0.mk hy386
               clear hy386
               by_cases c50 : x10_2.length + y386.length < 5864062014805
               ·rw [if_pos c50] at H
                have LMc50 := Aside0.mk c50
                clear c50
                obtain ⟨y389, hy389⟩ : ∃ y_ : List (S35), y_ = (x10_2 ++ y386) := ⟨_, rfl⟩
                replace H : (endonymlaw4_TrieCut.l0 kj22 t360 a1 l2 t365 y389 (wrap64 (((rd_T35 t360 x12_2).f1) + 1)) (wrap64 (x12_2 + 1))) = some true := by first | (rw [hy389]; with_reducible exact H) | (have H2_ := (Option.bind_some _ _).symm.trans H; rw [hy389]; with_reducible exact H2_) | (have H2_ := (Option.bind_some _ _).symm.trans H; with_reducible exact H2_) | with_reducible exact H | (rw [hy389]; exact H) | exact H
                have Ny389 := Aside0.mk hy389
                clear hy389
                have H' := Aside0.mk H
                clear H
                have hcz51_0 : wc.cell? ⟨gb372, 0, none⟩ = some (.int .i64 ((rd_T35 t360 x12_2).f0)) := (blk_cell BK372.out 0).trans rfl
                have hcz51_1 : wc.cell? ⟨gb372, 1, none⟩ = some (.int .i64 ((rd_T35 t360 x12_2).f1)) := (blk_cell BK372.out 1).trans rfl
                have hcz51_2 : wc.cell? ⟨gb372, 2, none⟩ = some (.int .i64 ((rd_T35 t360 x12_2).f2)) := (blk_cell BK372.out 2).trans rfl
                have hfz51_0 := blk_frozen BK372.out 0
                have hfz51_1 := blk_frozen BK372.out 1
                have hfz51_2 := blk_frozen BK372.out 2
                try go_wp2
                have n0_ := Aside0.mk (Kd.R_drew HO_0.out)
                have n1_ := Aside0.mk (Kd.P_drew HO_7.out)
                have n2_ := Aside0.mk (Kd.R_drew HO_10.out)
                have n3_ := Aside0.mk (blk_drew BK372.out)
                have n4_ := Aside0.mk (below_drew1 HB.out)
                clear HO_0
                clear HO_7
                clear HO_10
                clear BK372
                clear HB
                have HO_0 := n0_
                have HO_7 := n1_
                have HO_10 := n2_
                have BK372 := n3_
                have HB := n4_
                clear n0_ n1_ n2_ n3_ n4_
                refine start_ (n := 11) (S := fun w' => w'.cell? ⟨gb372, 0, none⟩ = some (.int .i64 ((rd_T35 t360 x12_2).f0)) ∧ w'.cell? ⟨gb372, 1, none⟩ = some (.int .i64 ((rd_T35 t360 x12_2).f1)) ∧ w'.cell? ⟨gb372, 2, none⟩ = some (.int .i64 ((rd_T35 t360 x12_2).f2))) (ds := []) #[false, false, false, false, false, false, false, false, false, false, false] (by kernel_rfl) rfl rfl ⟨(blk_cell BK372.out 0).trans rfl, (blk_cell BK372.out 1).trans rfl, (blk_cell BK372.out 2).trans rfl⟩ (fun hHeld => ?_); refine with_tabW endonymlaw4_TrieCut.tab17 endonymlaw4_TrieCut.bits17 (fun HT_ HW_ => ?_)
                generalize wc.drew = w52 at HO_0 HO_7 HO_10 BK372 HB hHeld ⊢
                refine pure_ (i := 0) (N := some 94) (v := ?_) (a' := ?_) #[x_, o_, o_, o_, o_, o_, o_, o_, o_, o_, o_] rfl rfl (any_of HT_.out (by kernel_rfl)) (fun _ _ _ h => h) (Or.inl ⟨by rfl, ?_⟩) ?_ ?_; rotate_left; (·(intro w'; go_simp <;> with_reducible rfl)); rotate_left; (·(simp only [Act.put, List.setIfInBounds_toArray, List.set_cons_zero, List.set_cons_succ, i64_w, i32_w] <;> rfl))
                refine pure_ (i := 2) (N := some 96) (v := ?_) (a' := ?_) #[x_, o_, x_, o_, o_, o_, o_, o_, o_, o_, o_] rfl rfl (any_of HT_.out (by kernel_rfl)) (fun _ _ _ h => h) (Or.inl ⟨by rfl, ?_⟩) ?_ ?_; rotate_left; (·(intro w'; go_simp <;> with_reducible rfl)); rotate_left; (·(simp only [Act.put, List.setIfInBounds_toArray, List.set_cons_zero, List.set_cons_succ, i64_w, i32_w] <;> rfl))
                refine pure_ (i := 3) (N := some 97) (v := ?_) (a' := ?_) #[x_, o_, x_, x_, o_, o_, o_, o_, o_, o_, o_] rfl rfl (any_of HT_.out (by kernel_rfl)) (fun _ _ _ h => h) (Or.inl ⟨by rfl, ?_⟩) ?_ ?_; rotate_left; (·(intro w'; go_simp <;> with_reducible rfl)); rotate_left; (·(simp only [Act.put, List.setIfInBounds_toArray, List.set_cons_zero, List.set_cons_succ, i64_w, i32_w] <;> rfl))
                refine pure_ (i := 5) (N := some 99) (v := ?_) (a' := ?_) #[x_, o_, x_, x_, o_, x_, o_, o_, o_, o_, o_] rfl rfl (any_of HT_.out (by kernel_rfl)) (fun _ _ _ h => h) (Or.inl ⟨by rfl, ?_⟩) ?_ ?_; rotate_left; (·(intro w'; go_simp <;> with_reducible rfl)); rotate_left; (·(simp only [Act.put, List.setIfInBounds_toArray, List.set_cons_zero, List.set_cons_succ, i64_w, i32_w] <;> rfl))
                refine take_ (i := 1) (N := some 95) (v := ?_) (a' := ?_) #[true, true, true, true, false, true, false, false, false, false, false] rfl rfl (take_ofW HT_.out HW_.out (by kernel_rfl)) (fun _ _ _ h => h) (Or.inl ⟨by rfl, ?_⟩) hHeld ?_ ?_
                rotate_left
                ·rintro w' ⟨s0, s1, s2⟩
                 go_simp
                 with_reducible rfl
                rotate_left
                ·simp only [Act.put, List.setIfInBounds_toArray, List.set_cons_zero, List.set_cons_succ, i64_w, i32_w]
                 rfl
                refine take_ (i := 4) (N := some 98) (v := ?_) (a' := ?_) #[true, true, true, true, true, true, false, false, false, false, false] rfl rfl (take_ofW HT_.out HW_.out (by kernel_rfl)) (fun _ _ _ h => h) (Or.inl ⟨by rfl, ?_⟩) hHeld ?_ ?_
                rotate_left
                ·rintro w' ⟨s0, s1, s2⟩
                 go_simp
                 with_reducible rfl
                rotate_left
                ·simp only [Act.put, List.setIfInBounds_toArray, List.set_cons_zero, List.set_cons_succ, i64_w, i32_w]
                 rfl
                refine take_ (i := 6) (N := some 100) (v := ?_) (a' := ?_) #[true, true, true, true, true, true, true, false, false, false, false] rfl rfl (take_ofW HT_.out HW_.out (by kernel_rfl)) (fun _ _ _ h => h) (Or.inl ⟨by rfl, ?_⟩) hHeld ?_ ?_
                rotate_left
                ·rintro w' ⟨s0, s1, s2⟩
                 go_simp
                 with_reducible rfl
                rotate_left
                ·simp only [Act.put, List.setIfInBounds_toArray, List.set_cons_zero, List.set_cons_succ, i64_w, i32_w]
                 rfl
                refine pure_ (i := 7) (N := some 101) (v := ?_) (a' := ?_) #[x_, x_, x_, x_, x_, x_, x_, x_, o_, o_, o_] rfl rfl (any_of HT_.out (by kernel_rfl)) (fun _ _ _ h => h) (Or.inl ⟨by rfl, ?_⟩) ?_ ?_; rotate_left; (·(intro w'; go_simp <;> with_reducible rfl)); rotate_left; (·(simp only [Act.put, List.setIfInBounds_toArray, List.set_cons_zero, List.set_cons_succ, i64_w, i32_w] <;> rfl))
                refine pure_ (i := 8) (N := some 102) (v := ?_) (a' := ?_) #[x_, x_, x_, x_, x_, x_, x_, x_, x_, o_, o_] rfl rfl (any_of HT_.out (by kernel_rfl)) (fun _ _ _ h => h) (Or.inl ⟨by rfl, ?_⟩) ?_ ?_; rotate_left; (·(intro w'; go_simp <;> with_reducible rfl)); rotate_left; (·(simp only [Act.put, List.setIfInBounds_toArray, List.set_cons_zero, List.set_cons_succ, i64_w, i32_w] <;> rfl))
                refine pure_ (i := 9) (N := some 103) (v := ?_) (a' := ?_) #[x_, x_, x_, x_, x_, x_, x_, x_, x_, x_, o_] rfl rfl (any_of HT_.out (by kernel_rfl)) (fun _ _ _ h => h) (Or.inl ⟨by rfl, ?_⟩) ?_ ?_; rotate_left; (·(intro w'; go_simp <;> with_reducible rfl)); rotate_left; (·(simp only [Act.put, List.setIfInBounds_toArray, List.set_cons_zero, List.set_cons_succ, i64_w, i32_w] <;> rfl))
                refine pure_ (i := 10) (N := some 15) (v := ?_) (a' := ?_) #[x_, x_, x_, x_, x_, x_, x_, x_, x_, x_, x_] rfl rfl (any_of HT_.out (by kernel_rfl)) (fun _ _ _ h => h) (Or.inl ⟨by rfl, ?_⟩) ?_ ?_; rotate_left; (·(intro w'; go_simp <;> with_reducible rfl)); rotate_left; (·(simp only [Act.put, List.setIfInBounds_toArray, List.set_cons_zero, List.set_cons_succ, i64_w, i32_w] <;> rfl))
                refine done_ (done_of HT_.out (by kernel_rfl)) ?_
                have hcz53_0 : w52.cell? ⟨gb372, 0, none⟩ = some (.int .i64 ((rd_T35 t360 x12_2).f0)) := (blk_cell BK372.out 0).trans rfl
                have hcz53_1 : w52.cell? ⟨gb372, 1, none⟩ = some (.int .i64 ((rd_T35 t360 x12_2).f1)) := (blk_cell BK372.out 1).trans rfl
                have hcz53_2 : w52.cell? ⟨gb372, 2, none⟩ = some (.int .i64 ((rd_T35 t360 x12_2).f2)) := (blk_cell BK372.out 2).trans rfl
                have hfz53_0 := blk_frozen BK372.out 0
                have hfz53_1 := blk_frozen BK372.out 1
                have hfz53_2 := blk_frozen BK372.out 2
                try go_wp2_with (first | ((with_reducible refine gate_dst (N := 118) rfl ?_); refine Kd.R_lit k35 _ 35 ?hg (N := 118) ?hd (xs := ([(⟨((rd_T35 t360 x12_2).f0), wrap64 (((rd_T35 t360 x12_2).f0) + (Int.tmod x14_18 (wrap64 (((rd_T35 t360 x12_2).f1) - ((rd_T35 t360 x12_2).f0))))), ((rd_T35 t360 x12_2).f2)⟩ : S35), (⟨wrap64 ((wrap64 (((rd_T35 t360 x12_2).f0) + (Int.tmod x14_18 (wrap64 (((rd_T35 t360 x12_2).f1) - ((rd_T35 t360 x12_2).f0)))))) + 1), ((rd_T35 t360 x12_2).f1), ((rd_T35 t360 x12_2).f2)⟩ : S35)] : List (S35))) (inner := [.int .i64 ((rd_T35 t360 x12_2).f0), .int .i64 (wrap64 (((rd_T35 t360 x12_2).f0) + (Int.tmod x14_18 (wrap64 (((rd_T35 t360 x12_2).f1) - ((rd_T35 t360 x12_2).f0)))))), .int .i64 ((rd_T35 t360 x12_2).f2), .int .i64 (wrap64 ((wrap64 (((rd_T35 t360 x12_2).f0) + (Int.tmod x14_18 (wrap64 (((rd_T35 t360 x12_2).f1) - ((rd_T35 t360 x12_2).f0)))))) + 1)), .int .i64 ((rd_T35 t360 x12_2).f1), .int .i64 ((rd_T35 t360 x12_2).f2)]) (ok := fun _ => True) (okp := fun _ => True) ?hr ?hp (fun _ hk => hk) trivial (Below.refl _ _) (Nat.le_refl _) (by simp) ?_; (case hd => rfl); (case hg => rfl); (case hr => first | (go_simp; done) | (go_simp; rfl)); (case hp => exact (Reps.c3 (show Kd.M k35 _ _ _ (⟨((rd_T35 t360 x12_2).f0), wrap64 (((rd_T35 t360 x12_2).f0) + (Int.tmod x14_18 (wrap64 (((rd_T35 t360 x12_2).f1) - ((rd_T35 t360 x12_2).f0))))), ((rd_T35 t360 x12_2).f2)⟩ : S35) [.int .i64 ((rd_T35 t360 x12_2).f0), .int .i64 (wrap64 (((rd_T35 t360 x12_2).f0) + (Int.tmod x14_18 (wrap64 (((rd_T35 t360 x12_2).f1) - ((rd_T35 t360 x12_2).f0)))))), .int .i64 ((rd_T35 t360 x12_2).f2)] from (k35_mkM _ _ _ (⟨((rd_T35 t360 x12_2).f0), wrap64 (((rd_T35 t360 x12_2).f0) + (Int.tmod x14_18 (wrap64 (((rd_T35 t360 x12_2).f1) - ((rd_T35 t360 x12_2).f0))))), ((rd_T35 t360 x12_2).f2)⟩ : S35) )) (Reps.c3 (show Kd.M k35 _ _ _ (⟨wrap64 ((wrap64 (((rd_T35 t360 x12_2).f0) + (Int.tmod x14_18 (wrap64 (((rd_T35 t360 x12_2).f1) - ((rd_T35 t360 x12_2).f0)))))) + 1), ((rd_T35 t360 x12_2).f1), ((rd_T35 t360 x12_2).f2)⟩ : S35) [.int .i64 (wrap64 ((wrap64 (((rd_T35 t360 x12_2).f0) + (Int.tmod x14_18 (wrap64 (((rd_T35 t360 x12_2).f1) - ((rd_T35 t360 x12_2).f0)))))) + 1)), .int .i64 ((rd_T35 t360 x12_2).f1), .int .i64 ((rd_T35 t360 x12_2).f2)] from (k35_mkM _ _ _ (⟨wrap64 ((wrap64 (((rd_T35 t360 x12_2).f0) + (Int.tmod x14_18 (wrap64 (((rd_T35 t360 x12_2).f1) - ((rd_T35 t360 x12_2).f0)))))) + 1), ((rd_T35 t360 x12_2).f1), ((rd_T35 t360 x12_2).f2)⟩ : S35) )) (Reps.none _ _)))); intro v387 w54 ho55 hb hg_ hnew_; clear hg_ hnew_; (first | rw [← Ny386.out] at ho55 | (simp only [Int.reduceToNat] at ho55; rw [← Ny386.out] at ho55)); have n0_ := Aside0.mk (Kd.R_elder' (by (with_reducible repeat (first | apply Kd.R_alloc | apply Kd.R_drewN | apply Kd.R_drew)); first | exact HO_0.out | exact Kd.R_mono HO_0.out (fun _ hk => ⟨(by first | exact hk.1 | exact fun e_ => hk.1 (e_.trans (own_len _ _ _ _ _))), hk.2⟩)) (Kd.R_base ho55) hb); have n1_ := Aside0.mk (Kd.P_below (by (with_reducible repeat (first | apply Kd.P_alloc | apply Kd.P_drewN | apply Kd.P_drew)); exact HO_7.out) hb); have n2_ := Aside0.mk (Kd.R_elder' (by (with_reducible repeat (first | apply Kd.R_alloc | apply Kd.R_drewN | apply Kd.R_drew)); first | exact HO_10.out | exact Kd.R_mono HO_10.out (fun _ hk => ⟨(by first | exact hk.1 | exact fun e_ => hk.1 (e_.trans (own_len _ _ _ _ _))), hk.2⟩)) (Kd.R_base ho55) hb); have n3_ := Aside0.mk (Kd.R_lower (Kd.R_newB (Kd.R_new' (Kd.R_new' ho55 (Kd.R_lt (by (with_reducible repeat (first | apply Kd.R_alloc | apply Kd.R_drewN | apply Kd.R_drew)); first | exact HO_0.out | exact Kd.R_mono HO_0.out (fun _ hk => ⟨(by first | exact hk.1 | exact fun e_ => hk.1 (e_.trans (own_len _ _ _ _ _))), hk.2⟩)))) (Kd.R_lt (by (with_reducible repeat (first | apply Kd.R_alloc | apply Kd.R_drewN | apply Kd.R_drew)); first | exact HO_10.out | exact Kd.R_mono HO_10.out (fun _ hk => ⟨(by first | exact hk.1 | exact fun e_ => hk.1 (e_.trans (own_len _ _ _ _ _))), hk.2⟩)))) (g := gb372) (o := .cells #[.int .i64 ((rd_T35 t360 x12_2).f0), .int .i64 ((rd_T35 t360 x12_2).f1), .int .i64 ((rd_T35 t360 x12_2).f2)] 35 (0, 0)) (by (with_reducible repeat (first | refine blk_drewN ?_ _ | refine blk_drew ?_ | refine blk_alloc ?_ _)); exact BK372.out)) (below_size (by repeat (first | (with_reducible first | exact HB.out | apply below_alloc | apply pw_below_drewN | apply below_drew1 | refine below_set ?_ GE372.out) | exact HB.out)))); have n4_ := Aside0.mk (blk_below (g := gb372) (o := .cells #[.int .i64 ((rd_T35 t360 x12_2).f0), .int .i64 ((rd_T35 t360 x12_2).f1), .int .i64 ((rd_T35 t360 x12_2).f2)] 35 (0, 0)) (by (with_reducible repeat (first | refine blk_drewN ?_ _ | refine blk_drew ?_ | refine blk_alloc ?_ _)); exact BK372.out) hb); have n5_ := Aside0.mk (below_step (by repeat (first | (with_reducible first | exact HB.out | apply below_alloc | apply pw_below_drewN | apply below_drew1 | refine below_set ?_ GE372.out) | exact HB.out)) hb); clear HO_0; clear HO_7; clear HO_10; clear BK372; clear HB; have HO_0 := n0_; have HO_7 := n1_; have HO_10 := n2_; have HO388 := n3_; have BK372 := n4_; have HB := n5_; clear n0_ n1_ n2_ n3_ n4_ n5_; clear hb ho55; obtain ⟨Ao57, co57, eo57⟩ := Kd.R_slice HO388.out; subst eo57) | ((with_reducible refine gate_builtin (b := .append) (xs := #[.tmp 104, .tmp 118]) rfl ?_); at_builtin; refine Kd.R_append_rows k35 (w0 := w) w.heap.size rfl (.tmp 104) (.tmp 118) 22 35 (.agg #[(.int .i64 0), (.int .i64 0), (.int .i64 0)]) 24 rfl Try.underlying22 info35 rfl (by decide) (by omega) u10 x10_2 y386 _ _ _ (fun k_ => some k_ ≠ (.slice (some ad371) t360.length co8 : Value).ownBlock ∧ some k_ ≠ (.slice Ao57 y386.length co57 : Value).ownBlock ∧ k_ ≠ gb372) (fun _ => False) rfl rfl ?aO ?aR (fun _ _ h => h) (fun _ h => h.elim) ?aF ?aB ?aS ?aL ?_; (case aR => repeat (first | exact (Kd.R_reads' HO388.out).2.2 | (with_reducible refine Kd.C_alloc ?_ _) | (with_reducible refine Kd.C_drewN ?_ _) | (with_reducible refine Kd.C_drew ?_))); (case aB => exact (by repeat (first | (with_reducible first | exact HB.out | apply below_alloc | apply pw_below_drewN | apply below_drew1 | refine below_set ?_ GE372.out) | exact HB.out))); (case aF => exact (fun k_ hk => ⟨Kd.fresh' (Kd.R_lt (by (with_reducible repeat (first | apply Kd.R_alloc | apply Kd.R_drewN | apply Kd.R_drew)); first | exact HO_0.out | exact Kd.R_mono HO_0.out (fun _ hk => ⟨⟨(by first | exact hk.1.1 | exact fun e_ => hk.1.1 (e_.trans (own_len _ _ _ _ _))), hk.1.2⟩, (by first | exact hk.2 | exact fun e_ => hk.2 (e_.trans (own_len _ _ _ _ _)))⟩))) k_ hk, Kd.fresh' (Kd.R_lt (by (with_reducible repeat (first | apply Kd.R_alloc | apply Kd.R_drewN | apply Kd.R_drew)); first | exact HO388.out | exact Kd.R_mono HO388.out (fun _ hk => ⟨⟨⟨trivial, (by first | exact hk.1.1.2 | exact fun e_ => hk.1.1.2 (e_.trans (own_len _ _ _ _ _)))⟩, (by first | exact hk.1.2 | exact fun e_ => hk.1.2 (e_.trans (own_len _ _ _ _ _)))⟩, hk.2⟩))) k_ hk, Kd.freshB (g := gb372) (o := .cells #[.int .i64 ((rd_T35 t360 x12_2).f0), .int .i64 ((rd_T35 t360 x12_2).f1), .int .i64 ((rd_T35 t360 x12_2).f2)] 35 (0, 0)) (by (with_reducible repeat (first | refine blk_drewN ?_ _ | refine blk_drew ?_ | refine blk_alloc ?_ _)); exact BK372.out) k_ hk⟩)); (case aO => exact (by (with_reducible repeat (first | apply Kd.R_alloc | apply Kd.R_drewN | apply Kd.R_drew)); first | exact Kd.R_mono HO_10.out (fun _ hk => ⟨hk.1.1, ⟨hk.2, hk.1.2⟩⟩) | exact Kd.R_mono HO_10.out (fun _ hk => ⟨(by first | exact hk.1.1 | exact fun e_ => hk.1.1 (e_.trans (own_len _ _ _ _ _))), ⟨(by first | exact hk.2 | exact fun e_ => hk.2 (e_.trans (own_len _ _ _ _ _))), hk.1.2⟩⟩))); (case aS => exact (below_size (by repeat (first | (with_reducible first | exact HB.out | apply below_alloc | apply pw_below_drewN | apply below_drew1 | refine below_set ?_ GE372.out) | exact HB.out)))); (case aL => have := LMc50.out; omega); intro v390 w56 ho hb hg hat; rw [← Ny389.out] at ho; have n0_ := Aside0.mk (Kd.R_after (ok := (fun k_ => some k_ ≠ (.slice Ao57 y386.length co57 : Value).ownBlock ∧ k_ ≠ gb372)) (by (with_reducible repeat (first | apply Kd.R_alloc | apply Kd.R_drewN | apply Kd.R_drew)); first | exact Kd.R_mono HO_0.out (fun _ hk => ⟨⟨hk.2, hk.1.2⟩, hk.1.1⟩) | exact Kd.R_mono HO_0.out (fun _ hk => ⟨⟨(by first | exact hk.2 | exact fun e_ => hk.2 (e_.trans (own_len _ _ _ _ _))), hk.1.2⟩, (by first | exact hk.1.1 | exact fun e_ => hk.1.1 (e_.trans (own_len _ _ _ _ _)))⟩)) hg hat); have n1_ := Aside0.mk (Kd.P_over' (by (with_reducible repeat (first | apply Kd.P_alloc | apply Kd.P_drewN | apply Kd.P_drew)); exact HO_7.out) (Kd.R_typed (by (with_reducible repeat (first | apply Kd.R_alloc | apply Kd.R_drewN | apply Kd.R_drew)); first | exact HO_10.out | exact Kd.R_mono HO_10.out (fun _ hk => ⟨⟨(by first | exact hk.1.1 | exact fun e_ => hk.1.1 (e_.trans (own_len _ _ _ _ _))), hk.1.2⟩, (by first | exact hk.2 | exact fun e_ => hk.2 (e_.trans (own_len _ _ _ _ _)))⟩))) (by decide) hg); have n2_ := Aside0.mk (blk_grown (g := gb372) (o := .cells #[.int .i64 ((rd_T35 t360 x12_2).f0), .int .i64 ((rd_T35 t360 x12_2).f1), .int .i64 ((rd_T35 t360 x12_2).f2)] 35 (0, 0)) (by (with_reducible repeat (first | refine blk_drewN ?_ _ | refine blk_drew ?_ | refine blk_alloc ?_ _)); exact BK372.out) hg (Kd.R_away HO_10.out (fun _ hk => hk.1.2))); have n3_ := Aside0.mk (Kd.R_after (ok := (fun k_ => some k_ ≠ (.slice (some ad371) t360.length co8 : Value).ownBlock ∧ k_ ≠ gb372)) (by (with_reducible repeat (first | apply Kd.R_alloc | apply Kd.R_drewN | apply Kd.R_drew)); first | exact Kd.R_mono HO388.out (fun _ hk => ⟨⟨hk.1.1.2, hk.2⟩, hk.1.2⟩) | exact Kd.R_mono HO388.out (fun _ hk => ⟨⟨(by first | exact hk.1.1.2 | exact fun e_ => hk.1.1.2 (e_.trans (own_len _ _ _ _ _))), hk.2⟩, (by first | exact hk.1.2 | exact fun e_ => hk.1.2 (e_.trans (own_len _ _ _ _ _)))⟩)) hg hat); have n4_ := Aside0.mk (hb); have n5_ := Aside0.mk (ho); clear HO_0; clear HO_7; clear BK372; clear HO388; clear HB; clear HO_10; have HO_0 := n0_; have HO_7 := n1_; have BK372 := n2_; have HO388 := n3_; have HB := n4_; have HO391 := n5_; clear n0_ n1_ n2_ n3_ n4_ n5_; clear ho hb hg hat; have hcz58_0 : w56.cell? ⟨gb372, 0, none⟩ = some (.int .i64 ((rd_T35 t360 x12_2).f0)) := (blk_cell BK372.out 0).trans rfl; have hcz58_1 : w56.cell? ⟨gb372, 1, none⟩ = some (.int .i64 ((rd_T35 t360 x12_2).f1)) := (blk_cell BK372.out 1).trans rfl; have hcz58_2 : w56.cell? ⟨gb372, 2, none⟩ = some (.int .i64 ((rd_T35 t360 x12_2).f2)) := (blk_cell BK372.out 2).trans rfl; have hfz58_0 := blk_frozen BK372.out 0; have hfz58_1 := blk_frozen BK372.out 1; have hfz58_2 := blk_frozen BK372.out 2))
                go_roundg kj22
                case measure => have := HJ5.out; have := HK2.out; have := HJ18.out; have := HJ22.out; omega
                case rel => exact ⟨(y389), (wrap64 (((rd_T35 t360 x12_2).f1) + 1)), (wrap64 (x12_2 + 1)), (by first | rfl | (simp; done) | (simp [*]; done)), (by first | rfl | (simp; done) | (simp [*]; done)), H', ⟨by have := HJ5.out; have := HK2.out; have := HJ18.out; have := HJ22.out; omega⟩, ⟨by (with_reducible repeat (first | apply Kd.R_alloc | apply Kd.R_drewN | apply Kd.R_drew)); first | exact Kd.R_mono HO_0.out (fun _ hk => hk.2) | exact Kd.R_mono HO_0.out (fun _ hk => (by first | exact hk.2 | exact fun e_ => hk.2 (e_.trans (own_len _ _ _ _ _))))⟩, ⟨by (with_reducible repeat (first | apply Kd.P_alloc | apply Kd.P_drewN | apply Kd.P_drew)); exact HO_7.out⟩, ⟨by (with_reducible repeat (first | apply Kd.R_alloc | apply Kd.R_drewN | apply Kd.R_drew)); first | exact Kd.R_mono HO391.out (fun _ hk => hk.1) | exact Kd.R_mono HO391.out (fun _ hk => (by first | exact hk.1 | exact fun e_ => hk.1 (e_.trans (own_len _ _ _ _ _))))⟩, ⟨by repeat (first | (with_reducible first | exact HB.out | apply below_alloc | apply pw_below_drewN | apply below_drew1 | refine below_set ?_ GE372.out) | exact HB.out)⟩⟩
               ·rw [if_neg c50] at H
                exact absurd H (by simp)
             ·rw [if_neg c48] at H
              have c48b0 : decide (((rd_T35 t360 x12_2).f0) < ((rd_T35 t360 x12_2).f1)) = false := decide_eq_false c48
              clear c48
              by_cases c59 : x10_2.length < 5864062014805
              ·rw [if_pos c59] at H
               have LMc59 := Aside0.mk c59
               clear c59
               obtain ⟨y392, hy392⟩ : ∃ y_ : List (S35), y_ = (x10_2 ++ [(⟨((rd_T35 t360 x12_2).f0), ((rd_T35 t360 x12_2).f1), ((rd_T35 t360 x12_2).f2)⟩ : S35)]) := ⟨_, rfl⟩
               replace H : (endonymlaw4_TrieCut.l0 kj22 t360 a1 l2 t365 y392 (wrap64 (((rd_T35 t360 x12_2).f1) + 1)) (wrap64 (x12_2 + 1))) = some true := by first | (rw [hy392]; with_reducible exact H) | (have H2_ := (Option.bind_some _ _).symm.trans H; rw [hy392]; with_reducible exact H2_) | (have H2_ := (Option.bind_some _ _).symm.trans H; with_reducible exact H2_) | with_reducible exact H | (rw [hy392]; exact H) | exact H
               have Ny392 := Aside0.mk hy392
               clear hy392
               have H' := Aside0.mk H
               clear H
               have hcz60_0 : wc.cell? ⟨gb372, 0, none⟩ = some (.int .i64 ((rd_T35 t360 x12_2).f0)) := (blk_cell BK372.out 0).trans rfl
               have hcz60_1 : wc.cell? ⟨gb372, 1, none⟩ = some (.int .i64 ((rd_T35 t360 x12_2).f1)) := (blk_cell BK372.out 1).trans rfl
               have hcz60_2 : wc.cell? ⟨gb372, 2, none⟩ = some (.int .i64 ((rd_T35 t360 x12_2).f2)) := (blk_cell BK372.out 2).trans rfl
               have hfz60_0 := blk_frozen BK372.out 0
               have hfz60_1 := blk_frozen BK372.out 1
               have hfz60_2 := blk_frozen BK372.out 2
               go_wp2_with (first | ((with_reducible refine gate_builtin (b := .append) (xs := #[.tmp 120, .tmp 122]) rfl ?_); at_builtin; refine Kd.R_append k35 (w0 := w) w.heap.size rfl (.tmp 120) (.tmp 122) 22 35 (.agg #[(.int .i64 0), (.int .i64 0), (.int .i64 0)]) 24 rfl Try.underlying22 info35 rfl (by decide) (by omega) u10 x10_2 (⟨((rd_T35 t360 x12_2).f0), ((rd_T35 t360 x12_2).f1), ((rd_T35 t360 x12_2).f2)⟩ : S35) [.int .i64 ((rd_T35 t360 x12_2).f0), .int .i64 ((rd_T35 t360 x12_2).f1), .int .i64 ((rd_T35 t360 x12_2).f2)] (fun k_ => some k_ ≠ (.slice (some ad371) t360.length co8 : Value).ownBlock ∧ k_ ≠ gb372) (fun _ => False) rfl rfl ?aP (fun _ hk => hk.elim) ?aF ?aO ?aB ?aS ?aL ?_; (case aP => exact k35_mkM _ _ _ (⟨((rd_T35 t360 x12_2).f0), ((rd_T35 t360 x12_2).f1), ((rd_T35 t360 x12_2).f2)⟩ : S35)); (case aB => exact (by repeat (first | (with_reducible first | exact HB.out | apply below_alloc | apply pw_below_drewN | apply below_drew1 | refine below_set ?_ GE372.out) | exact HB.out))); (case aF => exact (fun k_ hk => ⟨Kd.fresh' (Kd.R_lt (by (with_reducible repeat (first | apply Kd.R_alloc | apply Kd.R_drewN | apply Kd.R_drew)); first | exact HO_0.out | exact Kd.R_mono HO_0.out (fun _ hk => ⟨(by first | exact hk.1 | exact fun e_ => hk.1 (e_.trans (own_len _ _ _ _ _))), hk.2⟩))) k_ hk, Kd.freshB (g := gb372) (o := .cells #[.int .i64 ((rd_T35 t360 x12_2).f0), .int .i64 ((rd_T35 t360 x12_2).f1), .int .i64 ((rd_T35 t360 x12_2).f2)] 35 (0, 0)) (by (with_reducible repeat (first | refine blk_drewN ?_ _ | refine blk_drew ?_ | refine blk_alloc ?_ _)); exact BK372.out) k_ hk⟩)); (case aO => exact (by (with_reducible repeat (first | apply Kd.R_alloc | apply Kd.R_drewN | apply Kd.R_drew)); first | exact HO_10.out | exact Kd.R_mono HO_10.out (fun _ hk => ⟨(by first | exact hk.1 | exact fun e_ => hk.1 (e_.trans (own_len _ _ _ _ _))), hk.2⟩))); (case aS => exact (below_size (by repeat (first | (with_reducible first | exact HB.out | apply below_alloc | apply pw_below_drewN | apply below_drew1 | refine below_set ?_ GE372.out) | exact HB.out)))); (case aL => have := LMc59.out; omega); intro v393 w61 ho hb hg hat; rw [← Ny392.out] at ho; have n0_ := Aside0.mk (Kd.R_after (ok := (fun k_ => k_ ≠ gb372)) (by (with_reducible repeat (first | apply Kd.R_alloc | apply Kd.R_drewN | apply Kd.R_drew)); first | exact Kd.R_mono HO_0.out (fun _ hk => ⟨hk.2, hk.1⟩) | exact Kd.R_mono HO_0.out (fun _ hk => ⟨hk.2, (by first | exact hk.1 | exact fun e_ => hk.1 (e_.trans (own_len _ _ _ _ _)))⟩)) hg hat); have n1_ := Aside0.mk (Kd.P_over' (by (with_reducible repeat (first | apply Kd.P_alloc | apply Kd.P_drewN | apply Kd.P_drew)); exact HO_7.out) (Kd.R_typed (by (with_reducible repeat (first | apply Kd.R_alloc | apply Kd.R_drewN | apply Kd.R_drew)); first | exact HO_10.out | exact Kd.R_mono HO_10.out (fun _ hk => ⟨(by first | exact hk.1 | exact fun e_ => hk.1 (e_.trans (own_len _ _ _ _ _))), hk.2⟩))) (by decide) hg); have n2_ := Aside0.mk (blk_grown (g := gb372) (o := .cells #[.int .i64 ((rd_T35 t360 x12_2).f0), .int .i64 ((rd_T35 t360 x12_2).f1), .int .i64 ((rd_T35 t360 x12_2).f2)] 35 (0, 0)) (by (with_reducible repeat (first | refine blk_drewN ?_ _ | refine blk_drew ?_ | refine blk_alloc ?_ _)); exact BK372.out) hg (Kd.R_away HO_10.out (fun _ hk => hk.2))); have n3_ := Aside0.mk (hb); have n4_ := Aside0.mk (ho); clear HO_0; clear HO_7; clear BK372; clear HB; clear HO_10; have HO_0 := n0_; have HO_7 := n1_; have BK372 := n2_; have HB := n3_; have HO394 := n4_; clear n0_ n1_ n2_ n3_ n4_; clear ho hb hg hat; have hcz62_0 : w61.cell? ⟨gb372, 0, none⟩ = some (.int .i64 ((rd_T35 t360 x12_2).f0)) := (blk_cell BK372.out 0).trans rfl; have hcz62_1 : w61.cell? ⟨gb372, 1, none⟩ = some (.int .i64 ((rd_T35 t360 x12_2).f1)) := (blk_cell BK372.out 1).trans rfl; have hcz62_2 : w61.cell? ⟨gb372, 2, none⟩ = some (.int .i64 ((rd_T35 t360 x12_2).f2)) := (blk_cell BK372.out 2).trans rfl; have hfz62_0 := blk_frozen BK372.out 0; have hfz62_1 := blk_frozen BK372.out 1; have hfz62_2 := blk_frozen BK372.out 2))
               go_roundg kj22
               case measure => have := HJ5.out; have := HK2.out; have := HJ18.out; have := HJ22.out; omega
               case rel => exact ⟨(y392), (wrap64 (((rd_T35 t360 x12_2).f1) + 1)), (wrap64 (x12_2 + 1)), (by first | rfl | (simp; done) | (simp [*]; done)), (by first | rfl | (simp; done) | (simp [*]; done)), H', ⟨by have := HJ5.out; have := HK2.out; have := HJ18.out; have := HJ22.out; omega⟩, ⟨by (with_reducible repeat (first | apply Kd.R_alloc | apply Kd.R_drewN | apply Kd.R_drew)); first | exact Kd.R_mono HO_0.out (fun _ hk => hk.2) | exact Kd.R_mono HO_0.out (fun _ hk => (by first | exact hk.2 | exact fun e_ => hk.2 (e_.trans (own_len _ _ _ _ _))))⟩, ⟨by (with_reducible repeat (first | apply Kd.P_alloc | apply Kd.P_drewN | apply Kd.P_drew)); exact HO_7.out⟩, ⟨by (with_reducible repeat (first | apply Kd.R_alloc | apply Kd.R_drewN | apply Kd.R_drew)); first | exact Kd.R_mono HO394.out (fun _ hk => hk.1) | exact Kd.R_mono HO394.out (fun _ hk => (by first | exact hk.1 | exact fun e_ => hk.1 (e_.trans (own_len _ _ _ _ _))))⟩, ⟨by repeat (first | (with_reducible first | exact HB.out | apply below_alloc | apply pw_below_drewN | apply below_drew1 | refine below_set ?_ GE372.out) | exact HB.out)⟩⟩
              ·rw [if_neg c59] at H
               exact absurd H (by simp)
       ·rw [if_neg c18] at H
        exact absurd H (by simp)
      ·rw [if_neg c17] at H
       have c17b0 : decide (x12_2 < (t360.length : Int)) = false := decide_eq_false c17
       clear c17
       replace H := Option.bind_eq_some_iff.mp H
       obtain ⟨⟨t395, t396, t397⟩, A630, H⟩ := H
       replace H : ((endonymlaw4_told.f k2).bind fun t400 => (if t400 = true then (if t397 = 0 then (if (t395.isEmpty) = true then (endonymlaw4_TrieCut.j4 k2 t365 t395 true) else ((trie_Trie_Same.f k2 t365 t395).bind fun t401 => (if t401 = true then ((trie_Trie_Blocks.f t365).bind fun t402 => ((trie_Trie_Blocks.f t395).bind fun t403 => (if t402 = t403 then ((trie_Trie_Ranges.f k2 t365).bind fun t404 => ((trie_Trie_Ranges.f k2 t395).bind fun t407 => ((endonymref4_Same.f k2 t404 t407).bind fun t410 => (endonymlaw4_TrieCut.j4 k2 t365 t395 (!t410))))) else (endonymlaw4_TrieCut.j4 k2 t365 t395 true)))) else (endonymlaw4_TrieCut.j4 k2 t365 t395 true)))) else (endonymlaw4_TrieCut.j4 k2 t365 t395 true)) else (endonymlaw4_TrieCut.j4 k2 t365 t395 true))) = some true := H
       have A63 := Aside0.mk A630
       clear A630
       have HC64 := Aside0.mk H
       clear H
       obtain ⟨Ao65, co65, eo65⟩ := Kd.R_slice HO_10.out
       subst eo65
       go_upto_region 22 with (first | ((with_reducible refine gate_callee (f := 9) rfl ?_); refine goesL_ (some 130) rfl rfl Try.func9 (by kernel_rfl) rfl #[.slice Ao65 x10_2.length co65, .int .i64 a1] rfl (by (try simp only [List.map_toArray, List.map_cons, List.map_nil]); first | done | rfl | (simp only [List.length_drop, List.length_take]; rfl)) ?_; (with_reducible refine (trie_Build.calls k2 _ _ x10_2 a1 t395 t396 t397 _ ?side1 ?side2 A63.out).mono ?_); (case side1 => repeat (first | exact (Kd.R_reads' HO_10.out).2.2 | (with_reducible refine Kd.C_alloc ?_ _) | (with_reducible refine Kd.C_drewN ?_ _) | (with_reducible refine Kd.C_drew ?_))); (case side2 => exact (Kd.R_reads' HO_10.out).2.1); rintro e w66 ⟨v398, rfl, ho0, hb⟩; refine ⟨_, rfl, ?_⟩; have n0_ := Aside0.mk (Kd.R_below (by (with_reducible repeat (first | apply Kd.R_alloc | apply Kd.R_drewN | apply Kd.R_drew)); first | exact HO_0.out | exact Kd.R_mono HO_0.out (fun _ hk => (by first | exact hk | exact fun e_ => hk (e_.trans (own_len _ _ _ _ _))))) hb); have n1_ := Aside0.mk (Kd.P_elder' (by (with_reducible repeat (first | apply Kd.P_alloc | apply Kd.P_drewN | apply Kd.P_drew)); exact HO_7.out) (Kd.P_base ho0) hb); have n2_ := Aside0.mk (Kd.R_below (by (with_reducible repeat (first | apply Kd.R_alloc | apply Kd.R_drewN | apply Kd.R_drew)); first | exact HO_10.out | exact Kd.R_mono HO_10.out (fun _ hk => (by first | exact hk | exact fun e_ => hk (e_.trans (own_len _ _ _ _ _))))) hb); have n3_ := Aside0.mk (Kd.P_lower (Kd.P_new' ho0 (Kd.P_lt (by (with_reducible repeat (first | apply Kd.P_alloc | apply Kd.P_drewN | apply Kd.P_drew)); exact HO_7.out))) (below_size (by repeat (first | (with_reducible first | exact HB.out | apply below_alloc | apply pw_below_drewN | apply below_drew1) | exact HB.out)))); have n4_ := Aside0.mk (below_step (by repeat (first | (with_reducible first | exact HB.out | apply below_alloc | apply pw_below_drewN | apply below_drew1) | exact HB.out)) hb); clear HO_0; clear HO_7; clear HO_10; clear HB; have HO_0 := n0_; have HO_7 := n1_; have HO_10 := n2_; have HO399 := n3_; have HB := n4_; clear n0_ n1_ n2_ n3_ n4_; (try clear hb); (try clear hb2); (try clear hk); (try clear hi); (try clear ho0)))
       (try simp only [Act.put, List.setIfInBounds_toArray, List.set_cons_zero, List.set_cons_succ])
       go_cut [164] (fun v164 wc => ∃ (kq : Nat) (x164_63 : Bool), v164 = .bool x164_63 ∧ Aside0 (endonymlaw4_TrieCut.j4 kq t365 t395 x164_63 = some true) ∧ Aside0 (kq ≤ k2) ∧ Aside0 (Kd.P k57 57 wc w.heap.size (fun k_ => some k_ ≠ (v398 : Value).ownBlock) v368 t365) ∧ Aside0 (Kd.P k57 57 wc w.heap.size (fun k_ => some k_ ≠ (v368 : Value).ownBlock) v398 t395) ∧ Aside0 (Below w.heap.size w wc))
       case first =>
        have H := HC64.out
        clear HC64
        replace H := Option.bind_eq_some_iff.mp H
        obtain ⟨t400, A670, H⟩ := H
        replace H : (if t400 = true then (if t397 = 0 then (if (t395.isEmpty) = true then (endonymlaw4_TrieCut.j4 k2 t365 t395 true) else ((trie_Trie_Same.f k2 t365 t395).bind fun t401 => (if t401 = true then ((trie_Trie_Blocks.f t365).bind fun t402 => ((trie_Trie_Blocks.f t395).bind fun t403 => (if t402 = t403 then ((trie_Trie_Ranges.f k2 t365).bind fun t404 => ((trie_Trie_Ranges.f k2 t395).bind fun t407 => ((endonymref4_Same.f k2 t404 t407).bind fun t410 => (endonymlaw4_TrieCut.j4 k2 t365 t395 (!t410))))) else (endonymlaw4_TrieCut.j4 k2 t365 t395 true)))) else (endonymlaw4_TrieCut.j4 k2 t365 t395 true)))) else (endonymlaw4_TrieCut.j4 k2 t365 t395 true)) else (endonymlaw4_TrieCut.j4 k2 t365 t395 true)) = some true := H
        have A67 := Aside0.mk A670
        clear A670
        by_cases c68 : t400 = true
        ·subst c68
         have H1 : (if t397 = 0 then (if (t395.isEmpty) = true then (endonymlaw4_TrieCut.j4 k2 t365 t395 true) else ((trie_Trie_Same.f k2 t365 t395).bind fun t401 => (if t401 = true then ((trie_Trie_Blocks.f t365).bind fun t402 => ((trie_Trie_Blocks.f t395).bind fun t403 => (if t402 = t403 then ((trie_Trie_Ranges.f k2 t365).bind fun t404 => ((trie_Trie_Ranges.f k2 t395).bind fun t407 => ((endonymref4_Same.f k2 t404 t407).bind fun t410 => (endonymlaw4_TrieCut.j4 k2 t365 t395 (!t410))))) else (endonymlaw4_TrieCut.j4 k2 t365 t395 true)))) else (endonymlaw4_TrieCut.j4 k2 t365 t395 true)))) else (endonymlaw4_TrieCut.j4 k2 t365 t395 true)) = some true := by rw [if_pos rfl] at H; exact H
         clear H
         have H := H1
         clear H1
         by_cases c69 : t397 = 0
         ·rw [if_pos c69] at H
          have c69b0 : (t397 == 0) = true := beq_iff_eq.mpr c69
          have c69b1 : (t397 != 0) = false := bne_eq_false_iff_eq.mpr c69
          clear c69
          (first | rw [c69b0] | (simp only [i64_w, i32_w]; rw [c69b0]) | skip)
          by_cases c70 : (t395.isEmpty) = true
          ·rw [if_pos c70] at H
           have c70b0 : (t395.isEmpty) = true := c70
           clear c70
           exact (endonymlaw4_TrieCut.j4_no H).elim
          ·rw [if_neg c70] at H
           have c70b0 : (t395.isEmpty) = false := by simpa using c70
           clear c70
           replace H := Option.bind_eq_some_iff.mp H
           obtain ⟨t401, A710, H⟩ := H
           replace H : (if t401 = true then ((trie_Trie_Blocks.f t365).bind fun t402 => ((trie_Trie_Blocks.f t395).bind fun t403 => (if t402 = t403 then ((trie_Trie_Ranges.f k2 t365).bind fun t404 => ((trie_Trie_Ranges.f k2 t395).bind fun t407 => ((endonymref4_Same.f k2 t404 t407).bind fun t410 => (endonymlaw4_TrieCut.j4 k2 t365 t395 (!t410))))) else (endonymlaw4_TrieCut.j4 k2 t365 t395 true)))) else (endonymlaw4_TrieCut.j4 k2 t365 t395 true)) = some true := H
           have A71 := Aside0.mk A710
           clear A710
           by_cases c72 : t401 = true
           ·subst c72
            have H1 : ((trie_Trie_Blocks.f t365).bind fun t402 => ((trie_Trie_Blocks.f t395).bind fun t403 => (if t402 = t403 then ((trie_Trie_Ranges.f k2 t365).bind fun t404 => ((trie_Trie_Ranges.f k2 t395).bind fun t407 => ((endonymref4_Same.f k2 t404 t407).bind fun t410 => (endonymlaw4_TrieCut.j4 k2 t365 t395 (!t410))))) else (endonymlaw4_TrieCut.j4 k2 t365 t395 true)))) = some true := by rw [if_pos rfl] at H; exact H
            clear H
            have H := H1
            clear H1
            replace H := Option.bind_eq_some_iff.mp H
            obtain ⟨t402, A730, H⟩ := H
            replace H : ((trie_Trie_Blocks.f t395).bind fun t403 => (if t402 = t403 then ((trie_Trie_Ranges.f k2 t365).bind fun t404 => ((trie_Trie_Ranges.f k2 t395).bind fun t407 => ((endonymref4_Same.f k2 t404 t407).bind fun t410 => (endonymlaw4_TrieCut.j4 k2 t365 t395 (!t410))))) else (endonymlaw4_TrieCut.j4 k2 t365 t395 true))) = some true := H
            have A73 := Aside0.mk A730
            clear A730
            replace H := Option.bind_eq_some_iff.mp H
            obtain ⟨t403, A740, H⟩ := H
            replace H : (if t402 = t403 then ((trie_Trie_Ranges.f k2 t365).bind fun t404 => ((trie_Trie_Ranges.f k2 t395).bind fun t407 => ((endonymref4_Same.f k2 t404 t407).bind fun t410 => (endonymlaw4_TrieCut.j4 k2 t365 t395 (!t410))))) else (endonymlaw4_TrieCut.j4 k2 t365 t395 true)) = some true := H
            have A74 := Aside0.mk A740
            clear A740
            by_cases c75 : t402 = t403
            ·rw [if_pos c75] at H
             have c75b0 : (t402 == t403) = true := beq_iff_eq.mpr c75
             have c75b1 : (t402 != t403) = false := bne_eq_false_iff_eq.mpr c75
             clear c75
             replace H := Option.bind_eq_some_iff.mp H
             obtain ⟨t404, A760, H⟩ := H
             replace H : ((trie_Trie_Ranges.f k2 t395).bind fun t407 => ((endonymref4_Same.f k2 t404 t407).bind fun t410 => (endonymlaw4_TrieCut.j4 k2 t365 t395 (!t410)))) = some true := H
             have A76 := Aside0.mk A760
             clear A760
             replace H := Option.bind_eq_some_iff.mp H
             obtain ⟨t407, A770, H⟩ := H
             replace H : ((endonymref4_Same.f k2 t404 t407).bind fun t410 => (endonymlaw4_TrieCut.j4 k2 t365 t395 (!t410))) = some true := H
             have A77 := Aside0.mk A770
             clear A770
             replace H := Option.bind_eq_some_iff.mp H
             obtain ⟨t410, A780, H⟩ := H
             replace H : (endonymlaw4_TrieCut.j4 k2 t365 t395 (!t410)) = some true := H
             have A78 := Aside0.mk A780
             clear A780
             have H' := Aside0.mk H
             clear H
             go_wp2_with (first | ((with_reducible refine gate_callee (f := 11) rfl ?_); refine goesL_ (some 134) rfl rfl Try.func11 (by kernel_rfl) rfl #[] rfl (by (try simp only [List.map_toArray, List.map_cons, List.map_nil]); first | done | rfl | (simp only [List.length_drop, List.length_take]; rfl)) ?_; (with_reducible refine (endonymlaw4_told.calls k2  true _ A67.out).mono ?_); rintro e w79 ⟨rfl, hb⟩; refine ⟨_, rfl, ?_⟩; have n0_ := Aside0.mk (Kd.R_below (by (with_reducible repeat (first | apply Kd.R_alloc | apply Kd.R_drewN | apply Kd.R_drew)); first | exact HO_0.out | exact Kd.R_mono HO_0.out (fun _ hk => (by first | exact hk | exact fun e_ => hk (e_.trans (own_len _ _ _ _ _))))) hb); have n1_ := Aside0.mk (Kd.P_below (by (with_reducible repeat (first | apply Kd.P_alloc | apply Kd.P_drewN | apply Kd.P_drew)); first | exact HO_7.out | exact Kd.P_mono HO_7.out (fun _ hk => ⟨trivial, (by first | exact hk.2 | exact fun e_ => hk.2 (e_.trans (own_len _ _ _ _ _)))⟩)) hb); have n2_ := Aside0.mk (Kd.R_below (by (with_reducible repeat (first | apply Kd.R_alloc | apply Kd.R_drewN | apply Kd.R_drew)); first | exact HO_10.out | exact Kd.R_mono HO_10.out (fun _ hk => (by first | exact hk | exact fun e_ => hk (e_.trans (own_len _ _ _ _ _))))) hb); have n3_ := Aside0.mk (Kd.P_below (by (with_reducible repeat (first | apply Kd.P_alloc | apply Kd.P_drewN | apply Kd.P_drew)); first | exact HO399.out | exact Kd.P_mono HO399.out (fun _ hk => ⟨trivial, (by first | exact hk.2 | exact fun e_ => hk.2 (e_.trans (own_len _ _ _ _ _)))⟩)) hb); have n4_ := Aside0.mk (below_step (by repeat (first | (with_reducible first | exact HB.out | apply below_alloc | apply pw_below_drewN | apply below_drew1) | exact HB.out)) hb); clear HO_0; clear HO_7; clear HO_10; clear HO399; clear HB; have HO_0 := n0_; have HO_7 := n1_; have HO_10 := n2_; have HO399 := n3_; have HB := n4_; clear n0_ n1_ n2_ n3_ n4_; (try clear hb); (try clear hb2); (try clear hk); (try clear hi); obtain ⟨Ao80, co80, eo80⟩ := Kd.P_slice HO399.out; subst eo80; have hz81 := Kd.PC_isNone ((Kd.P_reads' HO399.out).2.2); obtain ⟨Ao82, co82, eo82⟩ := Kd.P_slice HO_7.out; subst eo82) | (go_at_call 17; (with_reducible refine (trie_Trie_Same.calls k2 _ t365 _ t395 true _ ?side1 ?side2 A71.out).mono ?_); (case side1 => repeat (first | exact (Kd.P_reads' HO_7.out).2.2 | (with_reducible refine Kd.PC_alloc ?_ _) | (with_reducible refine Kd.PC_drewN ?_ _) | (with_reducible refine Kd.PC_drew ?_))); (case side2 => repeat (first | exact (Kd.P_reads' HO399.out).2.2 | (with_reducible refine Kd.PC_alloc ?_ _) | (with_reducible refine Kd.PC_drewN ?_ _) | (with_reducible refine Kd.PC_drew ?_))); rintro e w' ⟨rfl, ⟨nd, rfl⟩⟩) | (go_at_call 21; (with_reducible refine (trie_Trie_Blocks.calls _ t365 t402 _ ?side1 A73.out).mono ?_); (case side1 => repeat (first | exact (Kd.P_reads' HO_7.out).2.2 | (with_reducible refine Kd.PC_alloc ?_ _) | (with_reducible refine Kd.PC_drewN ?_ _) | (with_reducible refine Kd.PC_drew ?_))); rintro e w' ⟨rfl, ⟨nd, rfl⟩⟩) | (go_at_call 21; (with_reducible refine (trie_Trie_Blocks.calls _ t395 t403 _ ?side1 A74.out).mono ?_); (case side1 => repeat (first | exact (Kd.P_reads' HO399.out).2.2 | (with_reducible refine Kd.PC_alloc ?_ _) | (with_reducible refine Kd.PC_drewN ?_ _) | (with_reducible refine Kd.PC_drew ?_))); rintro e w' ⟨rfl, ⟨nd, rfl⟩⟩) | (go_at_call 20; (with_reducible refine (trie_Trie_Ranges.calls k2 _ t365 t404 _ ?side1 A76.out).mono ?_); (case side1 => repeat (first | exact (Kd.P_reads' HO_7.out).2.2 | (with_reducible refine Kd.PC_alloc ?_ _) | (with_reducible refine Kd.PC_drewN ?_ _) | (with_reducible refine Kd.PC_drew ?_))); rintro e w83 ⟨v405, rfl, ho0, hb⟩; have n0_ := Aside0.mk (Kd.R_elder' (by (with_reducible repeat (first | apply Kd.R_alloc | apply Kd.R_drewN | apply Kd.R_drew)); first | exact HO_0.out | exact Kd.R_mono HO_0.out (fun _ hk => (by first | exact hk | exact fun e_ => hk (e_.trans (own_len _ _ _ _ _))))) (Kd.R_base ho0) hb); have n1_ := Aside0.mk (Kd.P_below (by (with_reducible repeat (first | apply Kd.P_alloc | apply Kd.P_drewN | apply Kd.P_drew)); first | exact HO_7.out | exact Kd.P_mono HO_7.out (fun _ hk => ⟨trivial, (by first | exact hk.2 | exact fun e_ => hk.2 (e_.trans (own_len _ _ _ _ _)))⟩)) hb); have n2_ := Aside0.mk (Kd.R_elder' (by (with_reducible repeat (first | apply Kd.R_alloc | apply Kd.R_drewN | apply Kd.R_drew)); first | exact HO_10.out | exact Kd.R_mono HO_10.out (fun _ hk => (by first | exact hk | exact fun e_ => hk (e_.trans (own_len _ _ _ _ _))))) (Kd.R_base ho0) hb); have n3_ := Aside0.mk (Kd.P_below (by (with_reducible repeat (first | apply Kd.P_alloc | apply Kd.P_drewN | apply Kd.P_drew)); first | exact HO399.out | exact Kd.P_mono HO399.out (fun _ hk => ⟨trivial, (by first | exact hk.2 | exact fun e_ => hk.2 (e_.trans (own_len _ _ _ _ _)))⟩)) hb); have n4_ := Aside0.mk (Kd.R_lower (Kd.R_new' (Kd.R_new' ho0 (Kd.R_lt (by (with_reducible repeat (first | apply Kd.R_alloc | apply Kd.R_drewN | apply Kd.R_drew)); first | exact HO_0.out | exact Kd.R_mono HO_0.out (fun _ hk => (by first | exact hk | exact fun e_ => hk (e_.trans (own_len _ _ _ _ _))))))) (Kd.R_lt (by (with_reducible repeat (first | apply Kd.R_alloc | apply Kd.R_drewN | apply Kd.R_drew)); first | exact HO_10.out | exact Kd.R_mono HO_10.out (fun _ hk => (by first | exact hk | exact fun e_ => hk (e_.trans (own_len _ _ _ _ _))))))) (below_size (by repeat (first | (with_reducible first | exact HB.out | apply below_alloc | apply pw_below_drewN | apply below_drew1) | exact HB.out)))); have n5_ := Aside0.mk (below_step (by repeat (first | (with_reducible first | exact HB.out | apply below_alloc | apply pw_below_drewN | apply below_drew1) | exact HB.out)) hb); clear HO_0; clear HO_7; clear HO_10; clear HO399; clear HB; have HO_0 := n0_; have HO_7 := n1_; have HO_10 := n2_; have HO399 := n3_; have HO406 := n4_; have HB := n5_; clear n0_ n1_ n2_ n3_ n4_ n5_; (try clear hb); (try clear hb2); (try clear hk); (try clear hi); (try clear ho0)) | (go_at_call 20; (with_reducible refine (trie_Trie_Ranges.calls k2 _ t395 t407 _ ?side1 A77.out).mono ?_); (case side1 => repeat (first | exact (Kd.P_reads' HO399.out).2.2 | (with_reducible refine Kd.PC_alloc ?_ _) | (with_reducible refine Kd.PC_drewN ?_ _) | (with_reducible refine Kd.PC_drew ?_))); rintro e w84 ⟨v408, rfl, ho0, hb⟩; have n0_ := Aside0.mk (Kd.R_elder' (by (with_reducible repeat (first | apply Kd.R_alloc | apply Kd.R_drewN | apply Kd.R_drew)); first | exact HO_0.out | exact Kd.R_mono HO_0.out (fun _ hk => ⟨(by first | exact hk.1 | exact fun e_ => hk.1 (e_.trans (own_len _ _ _ _ _))), (by first | exact hk.2 | exact fun e_ => hk.2 (e_.trans (own_len _ _ _ _ _)))⟩)) (Kd.R_base ho0) hb); have n1_ := Aside0.mk (Kd.P_below (by (with_reducible repeat (first | apply Kd.P_alloc | apply Kd.P_drewN | apply Kd.P_drew)); first | exact HO_7.out | exact Kd.P_mono HO_7.out (fun _ hk => ⟨trivial, (by first | exact hk.2 | exact fun e_ => hk.2 (e_.trans (own_len _ _ _ _ _)))⟩)) hb); have n2_ := Aside0.mk (Kd.R_elder' (by (with_reducible repeat (first | apply Kd.R_alloc | apply Kd.R_drewN | apply Kd.R_drew)); first | exact HO_10.out | exact Kd.R_mono HO_10.out (fun _ hk => ⟨(by first | exact hk.1 | exact fun e_ => hk.1 (e_.trans (own_len _ _ _ _ _))), (by first | exact hk.2 | exact fun e_ => hk.2 (e_.trans (own_len _ _ _ _ _)))⟩)) (Kd.R_base ho0) hb); have n3_ := Aside0.mk (Kd.P_below (by (with_reducible repeat (first | apply Kd.P_alloc | apply Kd.P_drewN | apply Kd.P_drew)); first | exact HO399.out | exact Kd.P_mono HO399.out (fun _ hk => ⟨trivial, (by first | exact hk.2 | exact fun e_ => hk.2 (e_.trans (own_len _ _ _ _ _)))⟩)) hb); have n4_ := Aside0.mk (Kd.R_elder' (by (with_reducible repeat (first | apply Kd.R_alloc | apply Kd.R_drewN | apply Kd.R_drew)); first | exact HO406.out | exact Kd.R_mono HO406.out (fun _ hk => ⟨⟨trivial, (by first | exact hk.1.2 | exact fun e_ => hk.1.2 (e_.trans (own_len _ _ _ _ _)))⟩, (by first | exact hk.2 | exact fun e_ => hk.2 (e_.trans (own_len _ _ _ _ _)))⟩)) (Kd.R_base ho0) hb); have n5_ := Aside0.mk (Kd.R_lower (Kd.R_new' (Kd.R_new' (Kd.R_new' ho0 (Kd.R_lt (by (with_reducible repeat (first | apply Kd.R_alloc | apply Kd.R_drewN | apply Kd.R_drew)); first | exact HO_0.out | exact Kd.R_mono HO_0.out (fun _ hk => ⟨(by first | exact hk.1 | exact fun e_ => hk.1 (e_.trans (own_len _ _ _ _ _))), (by first | exact hk.2 | exact fun e_ => hk.2 (e_.trans (own_len _ _ _ _ _)))⟩)))) (Kd.R_lt (by (with_reducible repeat (first | apply Kd.R_alloc | apply Kd.R_drewN | apply Kd.R_drew)); first | exact HO_10.out | exact Kd.R_mono HO_10.out (fun _ hk => ⟨(by first | exact hk.1 | exact fun e_ => hk.1 (e_.trans (own_len _ _ _ _ _))), (by first | exact hk.2 | exact fun e_ => hk.2 (e_.trans (own_len _ _ _ _ _)))⟩)))) (Kd.R_lt (by (with_reducible repeat (first | apply Kd.R_alloc | apply Kd.R_drewN | apply Kd.R_drew)); first | exact HO406.out | exact Kd.R_mono HO406.out (fun _ hk => ⟨⟨trivial, (by first | exact hk.1.2 | exact fun e_ => hk.1.2 (e_.trans (own_len _ _ _ _ _)))⟩, (by first | exact hk.2 | exact fun e_ => hk.2 (e_.trans (own_len _ _ _ _ _)))⟩)))) (below_size (by repeat (first | (with_reducible first | exact HB.out | apply below_alloc | apply pw_below_drewN | apply below_drew1) | exact HB.out)))); have n6_ := Aside0.mk (below_step (by repeat (first | (with_reducible first | exact HB.out | apply below_alloc | apply pw_below_drewN | apply below_drew1) | exact HB.out)) hb); clear HO_0; clear HO_7; clear HO_10; clear HO399; clear HO406; clear HB; have HO_0 := n0_; have HO_7 := n1_; have HO_10 := n2_; have HO399 := n3_; have HO406 := n4_; have HO409 := n5_; have HB := n6_; clear n0_ n1_ n2_ n3_ n4_ n5_ n6_; (try clear hb); (try clear hb2); (try clear hk); (try clear hi); (try clear ho0); obtain ⟨Ao85, co85, eo85⟩ := Kd.R_slice HO406.out; subst eo85; obtain ⟨Ao86, co86, eo86⟩ := Kd.R_slice HO409.out; subst eo86) | (go_at_call 12; (with_reducible refine (endonymref4_Same.calls k2 _ _ t404 _ _ t407 t410 _ ?side1 ?side2 ?side3 ?side4 A78.out).mono ?_); (case side1 => repeat (first | exact (Kd.R_reads' HO406.out).2.2 | (with_reducible refine Kd.C_alloc ?_ _) | (with_reducible refine Kd.C_drewN ?_ _) | (with_reducible refine Kd.C_drew ?_))); (case side2 => exact (Kd.R_reads' HO406.out).2.1); (case side3 => repeat (first | exact (Kd.R_reads' HO409.out).2.2 | (with_reducible refine Kd.C_alloc ?_ _) | (with_reducible refine Kd.C_drewN ?_ _) | (with_reducible refine Kd.C_drew ?_))); (case side4 => exact (Kd.R_reads' HO409.out).2.1); rintro e w' ⟨rfl, ⟨nd, rfl⟩⟩))
             go_meet
             case rel => exact ⟨_, (!t410), (by first | rfl | (simp; done) | (simp [*]; done)), H', ⟨by have := HJ5.out; have := HK2.out; first | omega | exact Nat.le_refl _⟩, ⟨by (with_reducible repeat (first | apply Kd.P_alloc | apply Kd.P_drewN | apply Kd.P_drew)); first | exact Kd.P_mono HO_7.out (fun _ hk => hk.2) | exact Kd.P_mono HO_7.out (fun _ hk => (by first | exact hk.2 | exact fun e_ => hk.2 (e_.trans (own_len _ _ _ _ _))))⟩, ⟨by (with_reducible repeat (first | apply Kd.P_alloc | apply Kd.P_drewN | apply Kd.P_drew)); first | exact Kd.P_mono HO399.out (fun _ hk => hk.2) | exact Kd.P_mono HO399.out (fun _ hk => (by first | exact hk.2 | exact fun e_ => hk.2 (e_.trans (own_len _ _ _ _ _))))⟩, ⟨by repeat (first | (with_reducible first | exact HB.out | apply below_alloc | apply pw_below_drewN | apply below_drew1) | exact HB.out)⟩⟩
            ·rw [if_neg c75] at H
             have c75b0 : (t402 == t403) = false := beq_eq_false_iff_ne.mpr c75
             have c75b1 : (t402 != t403) = true := bne_iff_ne.mpr c75
             exact (endonymlaw4_TrieCut.j4_no H).elim
           ·replace c72 := Bool.eq_false_iff.mpr c72
            subst c72
            have H1 : (endonymlaw4_TrieCut.j4 k2 t365 t395 true) = some true := by rw [if_neg (show ¬ (false = true) by decide)] at H; exact H
            clear H
            have H := H1
            clear H1
            exact (endonymlaw4_TrieCut.j4_no H).elim
         ·rw [if_neg c69] at H
          have c69b0 : (t397 == 0) = false := beq_eq_false_iff_ne.mpr c69
          have c69b1 : (t397 != 0) = true := bne_iff_ne.mpr c69
          (first | rw [c69b0] | (simp only [i64_w, i32_w]; rw [c69b0]) | skip)
          exact (endonymlaw4_TrieCut.j4_no H).elim
        ·replace c68 := Bool.eq_false_iff.mpr c68
         subst c68
         have H1 : (endonymlaw4_TrieCut.j4 k2 t365 t395 true) = some true := by rw [if_neg (show ¬ (false = true) by decide)] at H; exact H
         clear H
         have H := H1
         clear H1
         exact (endonymlaw4_TrieCut.j4_no H).elim
       case rest =>
        clear HC64
        (try clear c1); (try clear c2); (try clear p2); (try clear c3); (try clear c4); (try clear c5); (try clear c6); (try clear p6); (try clear c7); (try clear c9); (try clear c11); (try clear c17); (try clear c17b0); (try clear c18); (try clear c26); (try clear c28); (try clear c29); (try clear c29b0); (try clear c31); (try clear c42); (try clear c48); (try clear c48b0); (try clear c49); (try clear c49b0); (try clear c49b1); (try clear c50); (try clear c59); (try clear p64); (try clear c68); (try clear c69); (try clear c69b0); (try clear c69b1); (try clear c70); (try clear c70b0); (try clear c72); (try clear c75); (try clear c75b0); (try clear c75b1); (try clear hcz36_0); (try clear hcz36_1); (try clear hcz36_2); (try clear hcz41_0); (try clear hcz41_1); (try clear hcz41_2); (try clear hcz45_0); (try clear hcz45_1); (try clear hcz45_2); (try clear hcz47_0); (try clear hcz47_1); (try clear hcz47_2); (try clear hcz51_0); (try clear hcz51_1); (try clear hcz51_2); (try clear hcz53_0); (try clear hcz53_1); (try clear hcz53_2); (try clear hcz58_0); (try clear hcz58_1); (try clear hcz58_2); (try clear hcz60_0); (try clear hcz60_1); (try clear hcz60_2); (try clear hcz62_0); (try clear hcz62_1); (try clear hcz62_2); (try clear hfz36_0); (try clear hfz36_1); (try clear hfz36_2); (try clear hfz41_0); (try clear hfz41_1); (try clear hfz41_2); (try clear hfz45_0); (try clear hfz45_1); (try clear hfz45_2); (try clear hfz47_0); (try clear hfz47_1); (try clear hfz47_2); (try clear hfz51_0); (try clear hfz51_1); (try clear hfz51_2); (try clear hfz53_0); (try clear hfz53_1); (try clear hfz53_2); (try clear hfz58_0); (try clear hfz58_1); (try clear hfz58_2); (try clear hfz60_0); (try clear hfz60_1); (try clear hfz60_2); (try clear hfz62_0); (try clear hfz62_1); (try clear hfz62_2)
        obtain ⟨kq, x164_63, rfl, HA, HJ63, HO_7, HO_16, HB⟩ := hcut
        cases kq with
        | zero => exact absurd HA.out (by simp [endonymlaw4_TrieCut.j4])
        | succ kj63 =>
         have H := HA.out
         clear HA
         simp only [endonymlaw4_TrieCut.j4] at H
         by_cases c87 : x164_63 = true
         ·subst c87
          have H1 : (some false) = some true := by rw [if_pos rfl] at H; exact H
          clear H
          have H := H1
          clear H1
          exact absurd H (by simp)
         ·replace c87 := Bool.eq_false_iff.mpr c87
          subst c87
          have H1 : ((trie_Trie_Index.f t365).bind fun t411 => ((trie_Trie_Index.f t395).bind fun t414 => (endonymlaw4_TrieCut.l1 kj63 t411 t414 0))) = some true := by rw [if_neg (show ¬ (false = true) by decide)] at H; exact H
          clear H
          have H := H1
          clear H1
          replace H := Option.bind_eq_some_iff.mp H
          obtain ⟨t411, A880, H⟩ := H
          replace H : ((trie_Trie_Index.f t395).bind fun t414 => (endonymlaw4_TrieCut.l1 kj63 t411 t414 0)) = some true := H
          have A88 := Aside0.mk A880
          clear A880
          replace H := Option.bind_eq_some_iff.mp H
          obtain ⟨t414, A890, H⟩ := H
          replace H : (endonymlaw4_TrieCut.l1 kj63 t411 t414 0) = some true := H
          have A89 := Aside0.mk A890
          clear A890
          have H' := Aside0.mk H
          clear H
          obtain ⟨Ao90, co90, eo90⟩ := Kd.P_slice HO_7.out
          subst eo90
          go_wp2_with (first | ((with_reducible refine gate_callee (f := 19) rfl ?_); refine goesL_ (some 166) rfl rfl Try.func19 (by kernel_rfl) rfl #[.pointer Ao90] rfl (by (try simp only [List.map_toArray, List.map_cons, List.map_nil]); first | done | rfl | (simp only [List.length_drop, List.length_take]; rfl)) ?_; (with_reducible refine (trie_Trie_Index.calls _ t365 t411 _ ?side1 A88.out).mono ?_); (case side1 => repeat (first | exact (Kd.P_reads' HO_7.out).2.2 | (with_reducible refine Kd.PC_alloc ?_ _) | (with_reducible refine Kd.PC_drewN ?_ _) | (with_reducible refine Kd.PC_drew ?_))); rintro e w91 ⟨v412, rfl, ho0, hb⟩; refine ⟨_, rfl, ?_⟩; have n0_ := Aside0.mk (Kd.P_elder' (by (with_reducible repeat (first | apply Kd.P_alloc | apply Kd.P_drewN | apply Kd.P_drew)); first | exact HO_7.out | exact Kd.P_mono HO_7.out (fun _ hk => (by first | exact hk | exact fun e_ => hk (e_.trans (own_len _ _ _ _ _))))) (Kd.R_base ho0) hb); have n1_ := Aside0.mk (Kd.P_elder' (by (with_reducible repeat (first | apply Kd.P_alloc | apply Kd.P_drewN | apply Kd.P_drew)); first | exact HO_16.out | exact Kd.P_mono HO_16.out (fun _ hk => (by first | exact hk | exact fun e_ => hk (e_.trans (own_len _ _ _ _ _))))) (Kd.R_base ho0) hb); have n2_ := Aside0.mk (Kd.R_lower ho0 (below_size (by repeat (first | (with_reducible first | exact HB.out | apply below_alloc | apply pw_below_drewN | apply below_drew1) | exact HB.out)))); have n3_ := Aside0.mk (below_step (by repeat (first | (with_reducible first | exact HB.out | apply below_alloc | apply pw_below_drewN | apply below_drew1) | exact HB.out)) hb); clear HO_7; clear HO_16; clear HB; have HO_7 := n0_; have HO_16 := n1_; have HO413 := n2_; have HB := n3_; clear n0_ n1_ n2_ n3_; (try clear hb); (try clear hb2); (try clear hk); (try clear hi); (try clear ho0); obtain ⟨Ao92, co92, eo92⟩ := Kd.P_slice HO_16.out; subst eo92) | ((with_reducible refine gate_callee (f := 19) rfl ?_); refine goesL_ (some 168) rfl rfl Try.func19 (by kernel_rfl) rfl #[.pointer Ao92] rfl (by (try simp only [List.map_toArray, List.map_cons, List.map_nil]); first | done | rfl | (simp only [List.length_drop, List.length_take]; rfl)) ?_; (with_reducible refine (trie_Trie_Index.calls _ t395 t414 _ ?side1 A89.out).mono ?_); (case side1 => repeat (first | exact (Kd.P_reads' HO_16.out).2.2 | (with_reducible refine Kd.PC_alloc ?_ _) | (with_reducible refine Kd.PC_drewN ?_ _) | (with_reducible refine Kd.PC_drew ?_))); rintro e w93 ⟨v415, rfl, ho0, hb⟩; refine ⟨_, rfl, ?_⟩; have n0_ := Aside0.mk (Kd.P_elder' (by (with_reducible repeat (first | apply Kd.P_alloc | apply Kd.P_drewN | apply Kd.P_drew)); first | exact HO_7.out | exact Kd.P_mono HO_7.out (fun _ hk => ⟨(by first | exact hk.1 | exact fun e_ => hk.1 (e_.trans (own_len _ _ _ _ _))), (by first | exact hk.2 | exact fun e_ => hk.2 (e_.trans (own_len _ _ _ _ _)))⟩)) (Kd.R_base ho0) hb); have n1_ := Aside0.mk (Kd.P_elder' (by (with_reducible repeat (first | apply Kd.P_alloc | apply Kd.P_drewN | apply Kd.P_drew)); first | exact HO_16.out | exact Kd.P_mono HO_16.out (fun _ hk => ⟨(by first | exact hk.1 | exact fun e_ => hk.1 (e_.trans (own_len _ _ _ _ _))), (by first | exact hk.2 | exact fun e_ => hk.2 (e_.trans (own_len _ _ _ _ _)))⟩)) (Kd.R_base ho0) hb); have n2_ := Aside0.mk (Kd.R_elder' (by (with_reducible repeat (first | apply Kd.R_alloc | apply Kd.R_drewN | apply Kd.R_drew)); exact HO413.out) (Kd.R_base ho0) hb); have n3_ := Aside0.mk (Kd.R_lower (Kd.R_new' ho0 (Kd.R_lt (by (with_reducible repeat (first | apply Kd.R_alloc | apply Kd.R_drewN | apply Kd.R_drew)); exact HO413.out))) (below_size (by repeat (first | (with_reducible first | exact HB.out | apply below_alloc | apply pw_below_drewN | apply below_drew1) | exact HB.out)))); have n4_ := Aside0.mk (below_step (by repeat (first | (with_reducible first | exact HB.out | apply below_alloc | apply pw_below_drewN | apply below_drew1) | exact HB.out)) hb); clear HO_7; clear HO_16; clear HO413; clear HB; have HO_7 := n0_; have HO_16 := n1_; have HO413 := n2_; have HO416 := n3_; have HB := n4_; clear n0_ n1_ n2_ n3_ n4_; (try clear hb); (try clear hb2); (try clear hk); (try clear hi); (try clear ho0)))
          go_loopg [21] kj63 (fun kq v21 w' => ∃ (x21_4 : Int), v21 = .int .i64 x21_4 ∧ Aside0 (endonymlaw4_TrieCut.l1 kq t411 t414 x21_4 = some true) ∧ Aside0 (kq ≤ kj63) ∧ Aside0 (Kd.R (Kd.int .u16) 49 w' w.heap.size (fun k_ => some k_ ≠ (v415 : Value).ownBlock) v412 t411) ∧ Aside0 (Kd.R (Kd.int .u16) 49 w' w.heap.size (fun k_ => some k_ ≠ (v412 : Value).ownBlock) v415 t414) ∧ Aside0 (Below w.heap.size w w'))
          case atStart => exact ⟨(0), (by first | rfl | (simp; done) | (simp [*]; done)), H', ⟨Nat.le_refl _⟩, ⟨by (with_reducible repeat (first | apply Kd.R_alloc | apply Kd.R_drewN | apply Kd.R_drew)); first | exact Kd.R_mono HO413.out (fun _ hk => hk.2) | exact Kd.R_mono HO413.out (fun _ hk => (by first | exact hk.2 | exact fun e_ => hk.2 (e_.trans (own_len _ _ _ _ _))))⟩, ⟨by (with_reducible repeat (first | apply Kd.R_alloc | apply Kd.R_drewN | apply Kd.R_drew)); first | exact Kd.R_mono HO416.out (fun _ hk => hk.2) | exact Kd.R_mono HO416.out (fun _ hk => (by first | exact hk.2 | exact fun e_ => hk.2 (e_.trans (own_len _ _ _ _ _))))⟩, ⟨by repeat (first | (with_reducible first | exact HB.out | apply below_alloc | apply pw_below_drewN | apply below_drew1) | exact HB.out)⟩⟩
          case round =>
           clear H'
           (try clear c1); (try clear c2); (try clear p2); (try clear c3); (try clear c4); (try clear c5); (try clear c6); (try clear p6); (try clear c7); (try clear c8); (try clear c9); (try clear c11); (try clear c17); (try clear c17b0); (try clear c18); (try clear c19); (try clear c26); (try clear c28); (try clear c29); (try clear c29b0); (try clear c31); (try clear c42); (try clear c48); (try clear c48b0); (try clear c49); (try clear c49b0); (try clear c49b1); (try clear c50); (try clear c59); (try clear p64); (try clear c68); (try clear c69); (try clear c69b0); (try clear c69b1); (try clear c70); (try clear c70b0); (try clear c72); (try clear c75); (try clear c75b0); (try clear c75b1); (try clear c87); (try clear hcz36_0); (try clear hcz36_1); (try clear hcz36_2); (try clear hcz41_0); (try clear hcz41_1); (try clear hcz41_2); (try clear hcz45_0); (try clear hcz45_1); (try clear hcz45_2); (try clear hcz47_0); (try clear hcz47_1); (try clear hcz47_2); (try clear hcz51_0); (try clear hcz51_1); (try clear hcz51_2); (try clear hcz53_0); (try clear hcz53_1); (try clear hcz53_2); (try clear hcz58_0); (try clear hcz58_1); (try clear hcz58_2); (try clear hcz60_0); (try clear hcz60_1); (try clear hcz60_2); (try clear hcz62_0); (try clear hcz62_1); (try clear hcz62_2); (try clear hfz36_0); (try clear hfz36_1); (try clear hfz36_2); (try clear hfz41_0); (try clear hfz41_1); (try clear hfz41_2); (try clear hfz45_0); (try clear hfz45_1); (try clear hfz45_2); (try clear hfz47_0); (try clear hfz47_1); (try clear hfz47_2); (try clear hfz51_0); (try clear hfz51_1); (try clear hfz51_2); (try clear hfz53_0); (try clear hfz53_1); (try clear hfz53_2); (try clear hfz58_0); (try clear hfz58_1); (try clear hfz58_2); (try clear hfz60_0); (try clear hfz60_1); (try clear hfz60_2); (try clear hfz62_0); (try clear hfz62_1); (try clear hfz62_2); (try clear p2); (try clear p6); (try clear p64)
           obtain ⟨x21_4, rfl, HA, HK4, HO_19, HO_20, HB⟩ := hrel
           cases gk with
           | zero => exact absurd HA.out (by simp [endonymlaw4_TrieCut.l1])
           | succ k4 =>
            have H := HA.out
            clear HA
            simp only [endonymlaw4_TrieCut.l1] at H
            by_cases c94 : x21_4 < (t411.length : Int)
            ·rw [if_pos c94] at H
             have c94b0 : decide (x21_4 < (t411.length : Int)) = true := decide_eq_true c94
             clear c94
             by_cases c95 : 0 ≤ x21_4
             ·rw [if_pos c95] at H
              have c95b0 : decide (0 ≤ x21_4) = true := decide_eq_true c95
              clear c95
              by_cases c96 : x21_4 < (t414.length : Int)
              ·rw [if_pos c96] at H
               have c96b0 : decide (x21_4 < (t414.length : Int)) = true := decide_eq_true c96
               clear c96
               by_cases c97 : (rd t411 x21_4) = (rd t414 x21_4)
               ·rw [if_pos c97] at H
                have c97b0 : ((rd t411 x21_4) == (rd t414 x21_4)) = true := beq_iff_eq.mpr c97
                have c97b1 : ((rd t411 x21_4) != (rd t414 x21_4)) = false := bne_eq_false_iff_eq.mpr c97
                clear c97
                have H' := Aside0.mk H
                clear H
                obtain ⟨Ao98, co98, eo98⟩ := Kd.R_slice HO_19.out
                subst eo98
                try go_wp2
                have n0_ := Aside0.mk (Kd.R_drew HO_19.out)
                have n1_ := Aside0.mk (Kd.R_drew HO_20.out)
                have n2_ := Aside0.mk (below_drew1 HB.out)
                clear HO_19
                clear HO_20
                clear HB
                have HO_19 := n0_
                have HO_20 := n1_
                have HB := n2_
                clear n0_ n1_ n2_
                have p417 : 0 ≤ (x21_4 : Int) := of_decide_eq_true (by first | (with_reducible assumption) | assumption)
                have q417 : x21_4 < (t411.length : Int) := of_decide_eq_true (by first | (with_reducible assumption) | assumption)
                obtain ⟨ad417, e417, hx417_0⟩ := Kd.at_int (Kd.R_reads' HO_19.out).2.2 x21_4 p417 q417
                cases e417
                replace p417 := eq_true p417
                replace q417 := eq_true q417
                obtain ⟨Ao100, co100, eo100⟩ := Kd.R_slice HO_20.out
                (first | subst eo100 | (injection eo100 with f1_ f2_ f3_; have f4_ := f1_.symm; have f5_ := f3_.symm; clear f1_ f2_ f3_; subst f4_; subst f5_))
                have p418 : 0 ≤ (x21_4 : Int) := of_decide_eq_true (by first | (with_reducible assumption) | assumption)
                have q418 : x21_4 < (t414.length : Int) := of_decide_eq_true (by first | (with_reducible assumption) | assumption)
                obtain ⟨ad418, e418, hx418_0⟩ := Kd.at_int (Kd.R_reads' HO_20.out).2.2 x21_4 p418 q418
                cases e418
                replace p418 := eq_true p418
                replace q418 := eq_true q418
                refine start_ (n := 9) (S := fun w' => w'.cell? (ad417.add (x21_4).toNat) = some (.int .u16 (rd t411 x21_4)) ∧ w'.cell? (ad418.add (x21_4).toNat) = some (.int .u16 (rd t414 x21_4))) (ds := []) #[false, false, false, false, false, false, false, false, false] (by kernel_rfl) rfl rfl ⟨hx417_0, hx418_0⟩ (fun hHeld => ?_); refine with_tabW endonymlaw4_TrieCut.tab28 endonymlaw4_TrieCut.bits28 (fun HT_ HW_ => ?_)
                generalize wr.drew = w99 at HO_19 HO_20 HB hx417_0 hx418_0 hHeld ⊢
                refine pure_ (i := 0) (N := some 175) (v := ?_) (a' := ?_) #[x_, o_, o_, o_, o_, o_, o_, o_, o_] rfl rfl (any_of HT_.out (by kernel_rfl)) (fun _ _ _ h => h) (Or.inl ⟨by rfl, ?_⟩) ?_ ?_; rotate_left; (·(intro w'; go_simp <;> with_reducible rfl)); rotate_left; (·(simp only [Act.put, List.setIfInBounds_toArray, List.set_cons_zero, List.set_cons_succ, i64_w, i32_w] <;> rfl))
                refine pure_ (i := 1) (N := some 176) (v := ?_) (a' := ?_) #[x_, x_, o_, o_, o_, o_, o_, o_, o_] rfl rfl (any_of HT_.out (by kernel_rfl)) (fun _ _ _ h => h) (Or.inl ⟨by rfl, ?_⟩) ?_ ?_; rotate_left; (·(intro w'; go_simp <;> with_reducible rfl)); rotate_left; (·(simp only [Act.put, List.setIfInBounds_toArray, List.set_cons_zero, List.set_cons_succ, i64_w, i32_w] <;> rfl))
                refine pure_ (i := 2) (N := some 177) (v := ?_) (a' := ?_) #[x_, x_, x_, o_, o_, o_, o_, o_, o_] rfl rfl (any_of HT_.out (by kernel_rfl)) (fun _ _ _ h => h) (Or.inl ⟨by rfl, ?_⟩) ?_ ?_; rotate_left; (·(intro w'; go_simp <;> with_reducible rfl)); rotate_left; (·(simp only [Act.put, List.setIfInBounds_toArray, List.set_cons_zero, List.set_cons_succ, i64_w, i32_w] <;> rfl))
                refine pure_ (i := 4) (N := some 179) (v := ?_) (a' := ?_) #[x_, x_, x_, o_, x_, o_, o_, o_, o_] rfl rfl (any_of HT_.out (by kernel_rfl)) (fun _ _ _ h => h) (Or.inl ⟨by rfl, ?_⟩) ?_ ?_; rotate_left; (·(intro w'; go_simp <;> with_reducible rfl)); rotate_left; (·(simp only [Act.put, List.setIfInBounds_toArray, List.set_cons_zero, List.set_cons_succ, i64_w, i32_w] <;> rfl))
                refine pure_ (i := 5) (N := some 180) (v := ?_) (a' := ?_) #[x_, x_, x_, o_, x_, x_, o_, o_, o_] rfl rfl (any_of HT_.out (by kernel_rfl)) (fun _ _ _ h => h) (Or.inl ⟨by rfl, ?_⟩) ?_ ?_; rotate_left; (·(intro w'; go_simp <;> with_reducible rfl)); rotate_left; (·(simp only [Act.put, List.setIfInBounds_toArray, List.set_cons_zero, List.set_cons_succ, i64_w, i32_w] <;> rfl))
                refine pure_ (i := 6) (N := some 181) (v := ?_) (a' := ?_) #[x_, x_, x_, o_, x_, x_, x_, o_, o_] rfl rfl (any_of HT_.out (by kernel_rfl)) (fun _ _ _ h => h) (Or.inl ⟨by rfl, ?_⟩) ?_ ?_; rotate_left; (·(intro w'; go_simp <;> with_reducible rfl)); rotate_left; (·(simp only [Act.put, List.setIfInBounds_toArray, List.set_cons_zero, List.set_cons_succ, i64_w, i32_w] <;> rfl))
                refine take_ (i := 3) (N := some 178) (v := ?_) (a' := ?_) #[true, true, true, true, true, true, true, false, false] rfl rfl (take_ofW HT_.out HW_.out (by kernel_rfl)) (fun _ _ _ h => h) (Or.inl ⟨by rfl, ?_⟩) hHeld ?_ ?_
                rotate_left
                ·rintro w' ⟨s0, s1⟩
                 go_simp
                 with_reducible rfl
                rotate_left
                ·simp only [Act.put, List.setIfInBounds_toArray, List.set_cons_zero, List.set_cons_succ, i64_w, i32_w]
                 rfl
                refine take_ (i := 7) (N := some 182) (v := ?_) (a' := ?_) #[true, true, true, true, true, true, true, true, false] rfl rfl (take_ofW HT_.out HW_.out (by kernel_rfl)) (fun _ _ _ h => h) (Or.inl ⟨by rfl, ?_⟩) hHeld ?_ ?_
                rotate_left
                ·rintro w' ⟨s0, s1⟩
                 go_simp
                 with_reducible rfl
                rotate_left
                ·simp only [Act.put, List.setIfInBounds_toArray, List.set_cons_zero, List.set_cons_succ, i64_w, i32_w]
                 rfl
                refine pure_ (i := 8) (N := some 183) (v := ?_) (a' := ?_) #[x_, x_, x_, x_, x_, x_, x_, x_, x_] rfl rfl (any_of HT_.out (by kernel_rfl)) (fun _ _ _ h => h) (Or.inl ⟨by rfl, ?_⟩) ?_ ?_; rotate_left; (·(intro w'; go_simp <;> with_reducible rfl)); rotate_left; (·(simp only [Act.put, List.setIfInBounds_toArray, List.set_cons_zero, List.set_cons_succ, i64_w, i32_w] <;> rfl))
                refine done_ (done_of HT_.out (by kernel_rfl)) ?_
                try go_wp2
                go_roundg k4
                case measure => have := HJ5.out; have := HK2.out; have := HJ63.out; have := HK4.out; omega
                case rel => exact ⟨(wrap64 (x21_4 + 1)), (by first | rfl | (simp; done) | (simp [*]; done)), H', ⟨by have := HJ5.out; have := HK2.out; have := HJ63.out; have := HK4.out; omega⟩, ⟨by (with_reducible repeat (first | apply Kd.R_alloc | apply Kd.R_drewN | apply Kd.R_drew)); first | exact HO_19.out | exact Kd.R_mono HO_19.out (fun _ hk => (by first | exact hk | exact fun e_ => hk (e_.trans (own_len _ _ _ _ _))))⟩, ⟨by (with_reducible repeat (first | apply Kd.R_alloc | apply Kd.R_drewN | apply Kd.R_drew)); first | exact HO_20.out | exact Kd.R_mono HO_20.out (fun _ hk => (by first | exact hk | exact fun e_ => hk (e_.trans (own_len _ _ _ _ _))))⟩, ⟨by repeat (first | (with_reducible first | exact HB.out | apply below_alloc | apply pw_below_drewN | apply below_drew1) | exact HB.out)⟩⟩
               ·rw [if_neg c97] at H
                have c97b0 : ((rd t411 x21_4) == (rd t414 x21_4)) = false := beq_eq_false_iff_ne.mpr c97
                have c97b1 : ((rd t411 x21_4) != (rd t414 x21_4)) = true := bne_iff_ne.mpr c97
                exact absurd H (by simp)
              ·rw [if_neg c96] at H
               exact absurd H (by simp)
             ·rw [if_neg c95] at H
              exact absurd H (by simp)
            ·rw [if_neg c94] at H
             have c94b0 : decide (x21_4 < (t411.length : Int)) = false := decide_eq_false c94
             clear c94
             have hR_ := Option.some.inj H
             obtain ⟨Ao101, co101, eo101⟩ := Kd.R_slice HO_19.out
             subst eo101
             go_wp2
             go_ret
             exact ⟨by first | rfl | (rw [← hR_]; first | rfl | (simp only [hR_]; rfl)) | (simp only [hR_]; rfl) | (simp only [hR_]; done) | (simp [errW_none, errW_some] <;> rfl) | (simp [*, errW_none, errW_some] <;> rfl), by repeat (first | (with_reducible first | exact HB.out | apply below_alloc | apply pw_below_drewN | apply below_drew1) | exact HB.out)⟩

/-- THE ONE PURE STATEMENT of endonymlaw4_TrieCut: yours. -/
def endonymlaw4_TrieCut.Pure : Prop := ∀ (l0 : List (S35)) (a1 : Int) (l2 : List Int), l0.length ≤ maxLen → l0.length * 24 ≤ 140737488351232 → (∀ x ∈ l0, S35.wf x) → (Lit.int .i64 a1).wf = true → l2.length ≤ maxLen → l2.length * 8 ≤ 140737488351232 → (∀ x ∈ l2, (Lit.int .i64 x).wf = true) → ∃ k, endonymlaw4_TrieCut.f k l0 a1 l2 = some true
theorem endonymlaw4_TrieCut.walk (P : endonymlaw4_TrieCut.Pure) (a0 : Option Addr) (len0 cap0 : Nat) (l0 : List (S35)) (a1 : Int) (a2 : Option Addr) (len2 cap2 : Nat) (z2 : List Int) (w : World) (w0 : l0.length = len0 ∧ len0 ≤ cap0 ∧ Kd.C k35 w a0 len0 l0 ∧ l0.length * 24 ≤ 140737488351232 ∧ ∀ x ∈ l0, S35.wf x) (w1 : (Lit.int .i64 a1).wf = true) (w2 : (a2 = none ∧ len2 = 0 ∧ cap2 = 0 ∧ z2 = []) ∨ ∃ x, a2 = some x ∧ len2 ≤ cap2 ∧ cap2 ≤ maxLen ∧ z2.length = cap2 ∧ (∀ i, i < z2.length → w.cell? (x.add i) = some (.int .i64 (z2.getD i 0))) ∧ ∀ n ∈ z2, (Lit.int .i64 n).wf = true) (y2 : len2 * 8 ≤ 140737488351232) :
  Calls Try.prog 6 #[.slice a0 len0 cap0, .int .i64 a1, .slice a2 len2 cap2] w fun e w' => e = .returned (.bool true) ∧ Below w.heap.size w w' := by
 obtain ⟨rfl, hc0, hr0, y0, hw0⟩ := w0
 have hm0 : l0.length ≤ maxLen := hr0.2.1
 obtain ⟨l2, rfl, hr2, hm2, hw2, hc2⟩ := ReadsInt.ofRowC w2
 obtain ⟨k, h⟩ := P l0 a1 l2 hm0 y0 hw0 w1 hm2 y2 hw2
 refine (endonymlaw4_TrieCut.calls k _ _ l0 a1 _ _ l2 w hr0 hc0 (Kd.C_of_reads (d := (0 : Int)) (h1 := fun _ => rfl) hr2) hc2 h).mono ?_
 rintro e w' ⟨rfl, hd⟩
 exact ⟨rfl, hd⟩

end Go.Proofs.Ytiaodapgankjnaa.Q
