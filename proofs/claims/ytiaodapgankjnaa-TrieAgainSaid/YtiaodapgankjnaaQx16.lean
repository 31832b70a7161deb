-- Written by wip/tools/pr.py of this session over the kit's print (widened); the words are the kit's print's own. Not trusted: Lean checks it.
import Derived.Test.YtiaodapgankjnaaQx0
import Derived.Test.YtiaodapgankjnaaQx2
import Derived.Test.YtiaodapgankjnaaQx4
import Derived.Test.YtiaodapgankjnaaQx6
import Derived.Test.YtiaodapgankjnaaQx7
import Derived.Test.YtiaodapgankjnaaQx10
import Derived.Test.YtiaodapgankjnaaQx14
namespace Go.Proofs.Ytiaodapgankjnaa.Q
open Go.RowKit Go.Proofs.YtiaodapgankjnaaW.PrintWords Go.Proofs.YtiaodapgankjnaaW.PrintLast Go.Proofs.YtiaodapgankjnaaW.PrintMore
attribute [local go_sem] max2_int min2_int max_two min_two max_three min_three max_four min_four   -- for this text's walks alone
set_option linter.unusedVariables false
set_option linter.unusedSimpArgs false

attribute [local go_sem high] eqA50
/-! ### endonymlaw4_TrieAgain: function 7 -/
mutual
def endonymlaw4_TrieAgain.j0 : Nat → List Int → List (S57) → Int → Bool → Option (Bool)
 | 0, _, _, _, _ => none
 | k + 1, x2, x7, x9, x44 => if x44 = true then ((endonymlaw4_told.f k).bind fun t430 => (if t430 = true then (some (x9 != 0)) else (some false))) else ((trie_Trie_Ranges.f k x7).bind fun t431 => ((trie_Trie_Default.f x7).bind fun t434 => ((trie_Build.f k t431 t434).bind fun bt435 => ((endonymlaw4_told.f k).bind fun t440 => (if t440 = true then (if bt435.2.2 = 0 then (if (bt435.1.isEmpty) = true then (endonymlaw4_TrieAgain.j1 k x2 x7 bt435.1 true) else ((trie_Trie_Same.f k bt435.1 x7).bind fun t441 => (if t441 = true then ((trie_Trie_Blocks.f bt435.1).bind fun t442 => ((trie_Trie_Blocks.f x7).bind fun t443 => (endonymlaw4_TrieAgain.j1 k x2 x7 bt435.1 (t442 != t443)))) else (endonymlaw4_TrieAgain.j1 k x2 x7 bt435.1 true)))) else (endonymlaw4_TrieAgain.j1 k x2 x7 bt435.1 true)) else (endonymlaw4_TrieAgain.j1 k x2 x7 bt435.1 true))))))
def endonymlaw4_TrieAgain.j1 : Nat → List Int → List (S57) → List (S57) → Bool → Option (Bool)
 | 0, _, _, _, _ => none
 | k + 1, x2, x7, x10, x81 => if x81 = true then (some false) else ((trie_Trie_Index.f x7).bind fun t444 => ((trie_Trie_Index.f x10).bind fun t447 => (if (t444.length : Int) = 17408 then (endonymlaw4_TrieAgain.j2 k x2 x7 t444 t447 ((t447.length : Int) != 17408)) else (endonymlaw4_TrieAgain.j2 k x2 x7 t444 t447 true))))
def endonymlaw4_TrieAgain.j2 : Nat → List Int → List (S57) → List Int → List Int → Bool → Option (Bool)
 | 0, _, _, _, _, _ => none
 | k + 1, x2, x7, x13, x14, x93 => if x93 = true then (some false) else (endonymlaw4_TrieAgain.l0 k x2 x7 x13 x14 0 0)
def endonymlaw4_TrieAgain.l0 : Nat → List Int → List (S57) → List Int → List Int → Int → Int → Option (Bool)
 | 0, _, _, _, _, _, _ => none
 | k + 1, x2, x7, x13, x14, x15, x16 => if x16 < (x13.length : Int) then (if 0 ≤ x16 then (if x16 < (x14.length : Int) then (if (rd x13 x16) = (rd x14 x16) then (endonymlaw4_TrieAgain.j4 k x2 x7 x13 x14 x15 x16 (decide ((wrap64 (rd x13 x16)) > x15))) else (endonymlaw4_TrieAgain.j4 k x2 x7 x13 x14 x15 x16 true)) else (none)) else (none)) else ((trie_Trie_Blocks.f x7).bind fun t454 => (if x15 = t454 then (endonymlaw4_TrieAgain.l1 k x2 x7 x13 x15 0) else (some false)))
def endonymlaw4_TrieAgain.j4 : Nat → List Int → List (S57) → List Int → List Int → Int → Int → Bool → Option (Bool)
 | 0, _, _, _, _, _, _, _ => none
 | k + 1, x2, x7, x13, x14, x15, x16, x117 => if x117 = true then (some false) else (if 0 ≤ x16 then (if x16 < (x13.length : Int) then (if (wrap64 (rd x13 x16)) = x15 then (endonymlaw4_TrieAgain.l0 k x2 x7 x13 x14 (wrap64 (x15 + 1)) (wrap64 (x16 + 1))) else (endonymlaw4_TrieAgain.l0 k x2 x7 x13 x14 x15 (wrap64 (x16 + 1)))) else (none)) else (none))
def endonymlaw4_TrieAgain.l1 : Nat → List Int → List (S57) → List Int → Int → Int → Option (Bool)
 | 0, _, _, _, _, _ => none
 | k + 1, x2, x7, x13, x15, x17 => if x17 < x15 then (endonymlaw4_TrieAgain.j6 k x2 x7 x13 x15 x17 (decide (x17 < 60))) else (endonymlaw4_TrieAgain.j6 k x2 x7 x13 x15 x17 false)
def endonymlaw4_TrieAgain.j6 : Nat → List Int → List (S57) → List Int → Int → Int → Bool → Option (Bool)
 | 0, _, _, _, _, _, _ => none
 | k + 1, x2, x7, x13, x15, x17, x137 => if x137 = true then ((trie_Trie_Block.f x7 x17).bind fun bt455 => (endonymlaw4_TrieAgain.l2 k x2 x7 x13 x15 x17 (arrPut 64 (List.replicate 64 0) bt455.1) 0)) else (endonymlaw4_TrieAgain.l3 k x2 x7 x13 0)
def endonymlaw4_TrieAgain.l2 : Nat → List Int → List (S57) → List Int → Int → Int → List Int → Int → Option (Bool)
 | 0, _, _, _, _, _, _, _ => none
 | k + 1, x2, x7, x13, x15, x17, x18, x20 => if x20 < x17 then ((trie_Trie_Block.f x7 x20).bind fun bt462 => (if (arrEq 64 x18 (arrPut 64 (List.replicate 64 0) bt462.1)) = true then (some false) else (endonymlaw4_TrieAgain.l2 k x2 x7 x13 x15 x17 x18 (wrap64 (x20 + 1))))) else (endonymlaw4_TrieAgain.l1 k x2 x7 x13 x15 (wrap64 (x17 + 1)))
def endonymlaw4_TrieAgain.l3 : Nat → List Int → List (S57) → List Int → Int → Option (Bool)
 | 0, _, _, _, _ => none
 | k + 1, x2, x7, x13, x23 => if x23 < (x2.length : Int) then (endonymlaw4_TrieAgain.j9 k x2 x7 x13 x23 (decide (x23 < 60))) else (endonymlaw4_TrieAgain.j9 k x2 x7 x13 x23 false)
def endonymlaw4_TrieAgain.j9 : Nat → List Int → List (S57) → List Int → Int → Bool → Option (Bool)
 | 0, _, _, _, _, _ => none
 | k + 1, x2, x7, x13, x23, x167 => if x167 = true then (if 0 ≤ x23 then (if x23 < (x2.length : Int) then (if 0 ≤ (wrap64 (Int.tdiv (Int.tmod (Go.bits .and .i64 (rd x2 x23) 2097151) 1114112) 64)) then (if (wrap64 (Int.tdiv (Int.tmod (Go.bits .and .i64 (rd x2 x23) 2097151) 1114112) 64)) < (x13.length : Int) then ((trie_Trie_Block.f x7 (wrap64 (rd x13 (wrap64 (Int.tdiv (Int.tmod (Go.bits .and .i64 (rd x2 x23) 2097151) 1114112) 64))))).bind fun bt471 => (if bt471.2 = true then (if 0 ≤ (Int.tmod (Int.tmod (Go.bits .and .i64 (rd x2 x23) 2097151) 1114112) 64) then (if (Int.tmod (Int.tmod (Go.bits .and .i64 (rd x2 x23) 2097151) 1114112) 64) < 64 then ((trie_Trie_Get.f x7 (Int.tmod (Go.bits .and .i64 (rd x2 x23) 2097151) 1114112)).bind fun t479 => (if (wrap64 (rd (arrPut 64 (List.replicate 64 0) bt471.1) (Int.tmod (Int.tmod (Go.bits .and .i64 (rd x2 x23) 2097151) 1114112) 64))) = t479 then (endonymlaw4_TrieAgain.l3 k x2 x7 x13 (wrap64 (x23 + 1))) else (some false))) else (none)) else (none)) else (some false))) else (none)) else (none)) else (none)) else (none)) else (some true)
end
def endonymlaw4_TrieAgain.f (k : Nat) (l0 : List (S35)) (a1 : Int) (l2 : List Int) : Option (Bool) := (endonymlaw4_few.f l0).bind fun bt419 => ((trie_Build.f k bt419.2 a1).bind fun bt425 => (if bt425.2.2 = 0 then (endonymlaw4_TrieAgain.j0 k l2 bt425.1 bt425.2.2 (bt425.1.isEmpty)) else (endonymlaw4_TrieAgain.j0 k l2 bt425.1 bt425.2.2 true)))
theorem endonymlaw4_TrieAgain.mono_l : ∀ k, (∀ y0 y1 y2 y3, LeO (endonymlaw4_TrieAgain.j0 k y0 y1 y2 y3) (endonymlaw4_TrieAgain.j0 (k + 1) y0 y1 y2 y3)) ∧ (∀ y0 y1 y2 y3, LeO (endonymlaw4_TrieAgain.j1 k y0 y1 y2 y3) (endonymlaw4_TrieAgain.j1 (k + 1) y0 y1 y2 y3)) ∧ (∀ y0 y1 y2 y3 y4, LeO (endonymlaw4_TrieAgain.j2 k y0 y1 y2 y3 y4) (endonymlaw4_TrieAgain.j2 (k + 1) y0 y1 y2 y3 y4)) ∧ (∀ y0 y1 y2 y3 y4 y5, LeO (endonymlaw4_TrieAgain.l0 k y0 y1 y2 y3 y4 y5) (endonymlaw4_TrieAgain.l0 (k + 1) y0 y1 y2 y3 y4 y5)) ∧ (∀ y0 y1 y2 y3 y4 y5 y6, LeO (endonymlaw4_TrieAgain.j4 k y0 y1 y2 y3 y4 y5 y6) (endonymlaw4_TrieAgain.j4 (k + 1) y0 y1 y2 y3 y4 y5 y6)) ∧ (∀ y0 y1 y2 y3 y4, LeO (endonymlaw4_TrieAgain.l1 k y0 y1 y2 y3 y4) (endonymlaw4_TrieAgain.l1 (k + 1) y0 y1 y2 y3 y4)) ∧ (∀ y0 y1 y2 y3 y4 y5, LeO (endonymlaw4_TrieAgain.j6 k y0 y1 y2 y3 y4 y5) (endonymlaw4_TrieAgain.j6 (k + 1) y0 y1 y2 y3 y4 y5)) ∧ (∀ y0 y1 y2 y3 y4 y5 y6, LeO (endonymlaw4_TrieAgain.l2 k y0 y1 y2 y3 y4 y5 y6) (endonymlaw4_TrieAgain.l2 (k + 1) y0 y1 y2 y3 y4 y5 y6)) ∧ (∀ y0 y1 y2 y3, LeO (endonymlaw4_TrieAgain.l3 k y0 y1 y2 y3) (endonymlaw4_TrieAgain.l3 (k + 1) y0 y1 y2 y3)) ∧ (∀ y0 y1 y2 y3 y4, LeO (endonymlaw4_TrieAgain.j9 k y0 y1 y2 y3 y4) (endonymlaw4_TrieAgain.j9 (k + 1) y0 y1 y2 y3 y4))
 | 0 => ⟨fun _ _ _ _ r h => by simp [endonymlaw4_TrieAgain.j0] at h, fun _ _ _ _ r h => by simp [endonymlaw4_TrieAgain.j1] at h, fun _ _ _ _ _ r h => by simp [endonymlaw4_TrieAgain.j2] at h, fun _ _ _ _ _ _ r h => by simp [endonymlaw4_TrieAgain.l0] at h, fun _ _ _ _ _ _ _ r h => by simp [endonymlaw4_TrieAgain.j4] at h, fun _ _ _ _ _ r h => by simp [endonymlaw4_TrieAgain.l1] at h, fun _ _ _ _ _ _ r h => by simp [endonymlaw4_TrieAgain.j6] at h, fun _ _ _ _ _ _ _ r h => by simp [endonymlaw4_TrieAgain.l2] at h, fun _ _ _ _ r h => by simp [endonymlaw4_TrieAgain.l3] at h, fun _ _ _ _ _ r h => by simp [endonymlaw4_TrieAgain.j9] at h⟩
 | k + 1 => by
  obtain ⟨ih0, ih1, ih2, ih3, ih4, ih5, ih6, ih7, ih8, ih9⟩ := endonymlaw4_TrieAgain.mono_l k
  refine ⟨?_, ?_, ?_, ?_, ?_, ?_, ?_, ?_, ?_, ?_⟩
  ·intro y0 y1 y2 y3
   unfold endonymlaw4_TrieAgain.j0
   repeat' first
   | (with_reducible exact ih0 _ _ _ _)
   | (with_reducible exact ih1 _ _ _ _)
   | (with_reducible exact ih2 _ _ _ _ _)
   | (with_reducible exact ih3 _ _ _ _ _ _)
   | (with_reducible exact ih4 _ _ _ _ _ _ _)
   | (with_reducible exact ih5 _ _ _ _ _)
   | (with_reducible exact ih6 _ _ _ _ _ _)
   | (with_reducible exact ih7 _ _ _ _ _ _ _)
   | (with_reducible exact ih8 _ _ _ _)
   | (with_reducible exact ih9 _ _ _ _ _)
   | (with_reducible exact endonymlaw4_told.mono _)
   | (with_reducible exact trie_Build.mono _ _ _)
   | (with_reducible exact trie_Trie_Ranges.mono _ _)
   | (with_reducible exact trie_Trie_Same.mono _ _ _)
   | (with_reducible exact LeO.refl _)
   | (with_reducible exact LeO.none _)
   | (with_reducible refine LeO.ite ?_ ?_)
   | (with_reducible refine LeO.bind ?_ (fun _ => ?_))
   | exact ih0 _ _ _ _
   | exact ih1 _ _ _ _
   | exact ih2 _ _ _ _ _
   | exact ih3 _ _ _ _ _ _
   | exact ih4 _ _ _ _ _ _ _
   | exact ih5 _ _ _ _ _
   | exact ih6 _ _ _ _ _ _
   | exact ih7 _ _ _ _ _ _ _
   | exact ih8 _ _ _ _
   | exact ih9 _ _ _ _ _
   | exact endonymlaw4_told.mono _
   | exact trie_Build.mono _ _ _
   | exact trie_Trie_Ranges.mono _ _
   | exact trie_Trie_Same.mono _ _ _
   | exact LeO.none _
   | refine LeO.ite ?_ ?_
   | refine LeO.bind ?_ (fun _ => ?_)
  ·intro y0 y1 y2 y3
   unfold endonymlaw4_TrieAgain.j1
   repeat' first
   | (with_reducible exact ih0 _ _ _ _)
   | (with_reducible exact ih1 _ _ _ _)
   | (with_reducible exact ih2 _ _ _ _ _)
   | (with_reducible exact ih3 _ _ _ _ _ _)
   | (with_reducible exact ih4 _ _ _ _ _ _ _)
   | (with_reducible exact ih5 _ _ _ _ _)
   | (with_reducible exact ih6 _ _ _ _ _ _)
   | (with_reducible exact ih7 _ _ _ _ _ _ _)
   | (with_reducible exact ih8 _ _ _ _)
   | (with_reducible exact ih9 _ _ _ _ _)
   | (with_reducible exact endonymlaw4_told.mono _)
   | (with_reducible exact trie_Build.mono _ _ _)
   | (with_reducible exact trie_Trie_Ranges.mono _ _)
   | (with_reducible exact trie_Trie_Same.mono _ _ _)
   | (with_reducible exact LeO.refl _)
   | (with_reducible exact LeO.none _)
   | (with_reducible refine LeO.ite ?_ ?_)
   | (with_reducible refine LeO.bind ?_ (fun _ => ?_))
   | exact ih0 _ _ _ _
   | exact ih1 _ _ _ _
   | exact ih2 _ _ _ _ _
   | exact ih3 _ _ _ _ _ _
   | exact ih4 _ _ _ _ _ _ _
   | exact ih5 _ _ _ _ _
   | exact ih6 _ _ _ _ _ _
   | exact ih7 _ _ _ _ _ _ _
   | exact ih8 _ _ _ _
   | exact ih9 _ _ _ _ _
   | exact endonymlaw4_told.mono _
   | exact trie_Build.mono _ _ _
   | exact trie_Trie_Ranges.mono _ _
   | exact trie_Trie_Same.mono _ _ _
   | exact LeO.none _
   | refine LeO.ite ?_ ?_
   | refine LeO.bind ?_ (fun _ => ?_)
  ·intro y0 y1 y2 y3 y4
   unfold endonymlaw4_TrieAgain.j2
   repeat' first
   | (with_reducible exact ih0 _ _ _ _)
   | (with_reducible exact ih1 _ _ _ _)
   | (with_reducible exact ih2 _ _ _ _ _)
   | (with_reducible exact ih3 _ _ _ _ _ _)
   | (with_reducible exact ih4 _ _ _ _ _ _ _)
   | (with_reducible exact ih5 _ _ _ _ _)
   | (with_reducible exact ih6 _ _ _ _ _ _)
   | (with_reducible exact ih7 _ _ _ _ _ _ _)
   | (with_reducible exact ih8 _ _ _ _)
   | (with_reducible exact ih9 _ _ _ _ _)
   | (with_reducible exact endonymlaw4_told.mono _)
   | (with_reducible exact trie_Build.mono _ _ _)
   | (with_reducible exact trie_Trie_Ranges.mono _ _)
   | (with_reducible exact trie_Trie_Same.mono _ _ _)
   | (with_reducible exact LeO.refl _)
   | (with_reducible exact LeO.none _)
   | (with_reducible refine LeO.ite ?_ ?_)
   | (with_reducible refine LeO.bind ?_ (fun _ => ?_))
   | exact ih0 _ _ _ _
   | exact ih1 _ _ _ _
   | exact ih2 _ _ _ _ _
   | exact ih3 _ _ _ _ _ _
   | exact ih4 _ _ _ _ _ _ _
   | exact ih5 _ _ _ _ _
   | exact ih6 _ _ _ _ _ _
   | exact ih7 _ _ _ _ _ _ _
   | exact ih8 _ _ _ _
   | exact ih9 _ _ _ _ _
   | exact endonymlaw4_told.mono _
   | exact trie_Build.mono _ _ _
   | exact trie_Trie_Ranges.mono _ _
   | exact trie_Trie_Same.mono _ _ _
   | exact LeO.none _
   | refine LeO.ite ?_ ?_
   | refine LeO.bind ?_ (fun _ => ?_)
  ·intro y0 y1 y2 y3 y4 y5
   unfold endonymlaw4_TrieAgain.l0
   repeat' first
   | (with_reducible exact ih0 _ _ _ _)
   | (with_reducible exact ih1 _ _ _ _)
   | (with_reducible exact ih2 _ _ _ _ _)
   | (with_reducible exact ih3 _ _ _ _ _ _)
   | (with_reducible exact ih4 _ _ _ _ _ _ _)
   | (with_reducible exact ih5 _ _ _ _ _)
   | (with_reducible exact ih6 _ _ _ _ _ _)
   | (with_reducible exact ih7 _ _ _ _ _ _ _)
   | (with_reducible exact ih8 _ _ _ _)
   | (with_reducible exact ih9 _ _ _ _ _)
   | (with_reducible exact endonymlaw4_told.mono _)
   | (with_reducible exact trie_Build.mono _ _ _)
   | (with_reducible exact trie_Trie_Ranges.mono _ _)
   | (with_reducible exact trie_Trie_Same.mono _ _ _)
   | (with_reducible exact LeO.refl _)
   | (with_reducible exact LeO.none _)
   | (with_reducible refine LeO.ite ?_ ?_)
   | (with_reducible refine LeO.bind ?_ (fun _ => ?_))
   | exact ih0 _ _ _ _
   | exact ih1 _ _ _ _
   | exact ih2 _ _ _ _ _
   | exact ih3 _ _ _ _ _ _
   | exact ih4 _ _ _ _ _ _ _
   | exact ih5 _ _ _ _ _
   | exact ih6 _ _ _ _ _ _
   | exact ih7 _ _ _ _ _ _ _
   | exact ih8 _ _ _ _
   | exact ih9 _ _ _ _ _
   | exact endonymlaw4_told.mono _
   | exact trie_Build.mono _ _ _
   | exact trie_Trie_Ranges.mono _ _
   | exact trie_Trie_Same.mono _ _ _
   | exact LeO.none _
   | refine LeO.ite ?_ ?_
   | refine LeO.bind ?_ (fun _ => ?_)
  ·intro y0 y1 y2 y3 y4 y5 y6
   unfold endonymlaw4_TrieAgain.j4
   repeat' first
   | (with_reducible exact ih0 _ _ _ _)
   | (with_reducible exact ih1 _ _ _ _)
   | (with_reducible exact ih2 _ _ _ _ _)
   | (with_reducible exact ih3 _ _ _ _ _ _)
   | (with_reducible exact ih4 _ _ _ _ _ _ _)
   | (with_reducible exact ih5 _ _ _ _ _)
   | (with_reducible exact ih6 _ _ _ _ _ _)
   | (with_reducible exact ih7 _ _ _ _ _ _ _)
   | (with_reducible exact ih8 _ _ _ _)
   | (with_reducible exact ih9 _ _ _ _ _)
   | (with_reducible exact endonymlaw4_told.mono _)
   | (with_reducible exact trie_Build.mono _ _ _)
   | (with_reducible exact trie_Trie_Ranges.mono _ _)
   | (with_reducible exact trie_Trie_Same.mono _ _ _)
   | (with_reducible exact LeO.refl _)
   | (with_reducible exact LeO.none _)
   | (with_reducible refine LeO.ite ?_ ?_)
   | (with_reducible refine LeO.bind ?_ (fun _ => ?_))
   | exact ih0 _ _ _ _
   | exact ih1 _ _ _ _
   | exact ih2 _ _ _ _ _
   | exact ih3 _ _ _ _ _ _
   | exact ih4 _ _ _ _ _ _ _
   | exact ih5 _ _ _ _ _
   | exact ih6 _ _ _ _ _ _
   | exact ih7 _ _ _ _ _ _ _
   | exact ih8 _ _ _ _
   | exact ih9 _ _ _ _ _
   | exact endonymlaw4_told.mono _
   | exact trie_Build.mono _ _ _
   | exact trie_Trie_Ranges.mono _ _
   | exact trie_Trie_Same.mono _ _ _
   | exact LeO.none _
   | refine LeO.ite ?_ ?_
   | refine LeO.bind ?_ (fun _ => ?_)
  ·intro y0 y1 y2 y3 y4
   unfold endonymlaw4_TrieAgain.l1
   repeat' first
   | (with_reducible exact ih0 _ _ _ _)
   | (with_reducible exact ih1 _ _ _ _)
   | (with_reducible exact ih2 _ _ _ _ _)
   | (with_reducible exact ih3 _ _ _ _ _ _)
   | (with_reducible exact ih4 _ _ _ _ _ _ _)
   | (with_reducible exact ih5 _ _ _ _ _)
   | (with_reducible exact ih6 _ _ _ _ _ _)
   | (with_reducible exact ih7 _ _ _ _ _ _ _)
   | (with_reducible exact ih8 _ _ _ _)
   | (with_reducible exact ih9 _ _ _ _ _)
   | (with_reducible exact endonymlaw4_told.mono _)
   | (with_reducible exact trie_Build.mono _ _ _)
   | (with_reducible exact trie_Trie_Ranges.mono _ _)
   | (with_reducible exact trie_Trie_Same.mono _ _ _)
   | (with_reducible exact LeO.refl _)
   | (with_reducible exact LeO.none _)
   | (with_reducible refine LeO.ite ?_ ?_)
   | (with_reducible refine LeO.bind ?_ (fun _ => ?_))
   | exact ih0 _ _ _ _
   | exact ih1 _ _ _ _
   | exact ih2 _ _ _ _ _
   | exact ih3 _ _ _ _ _ _
   | exact ih4 _ _ _ _ _ _ _
   | exact ih5 _ _ _ _ _
   | exact ih6 _ _ _ _ _ _
   | exact ih7 _ _ _ _ _ _ _
   | exact ih8 _ _ _ _
   | exact ih9 _ _ _ _ _
   | exact endonymlaw4_told.mono _
   | exact trie_Build.mono _ _ _
   | exact trie_Trie_Ranges.mono _ _
   | exact trie_Trie_Same.mono _ _ _
   | exact LeO.none _
   | refine LeO.ite ?_ ?_
   | refine LeO.bind ?_ (fun _ => ?_)
  ·intro y0 y1 y2 y3 y4 y5
   unfold endonymlaw4_TrieAgain.j6
   repeat' first
   | (with_reducible exact ih0 _ _ _ _)
   | (with_reducible exact ih1 _ _ _ _)
   | (with_reducible exact ih2 _ _ _ _ _)
   | (with_reducible exact ih3 _ _ _ _ _ _)
   | (with_reducible exact ih4 _ _ _ _ _ _ _)
   | (with_reducible exact ih5 _ _ _ _ _)
   | (with_reducible exact ih6 _ _ _ _ _ _)
   | (with_reducible exact ih7 _ _ _ _ _ _ _)
   | (with_reducible exact ih8 _ _ _ _)
   | (with_reducible exact ih9 _ _ _ _ _)
   | (with_reducible exact endonymlaw4_told.mono _)
   | (with_reducible exact trie_Build.mono _ _ _)
   | (with_reducible exact trie_Trie_Ranges.mono _ _)
   | (with_reducible exact trie_Trie_Same.mono _ _ _)
   | (with_reducible exact LeO.refl _)
   | (with_reducible exact LeO.none _)
   | (with_reducible refine LeO.ite ?_ ?_)
   | (with_reducible refine LeO.bind ?_ (fun _ => ?_))
   | exact ih0 _ _ _ _
   | exact ih1 _ _ _ _
   | exact ih2 _ _ _ _ _
   | exact ih3 _ _ _ _ _ _
   | exact ih4 _ _ _ _ _ _ _
   | exact ih5 _ _ _ _ _
   | exact ih6 _ _ _ _ _ _
   | exact ih7 _ _ _ _ _ _ _
   | exact ih8 _ _ _ _
   | exact ih9 _ _ _ _ _
   | exact endonymlaw4_told.mono _
   | exact trie_Build.mono _ _ _
   | exact trie_Trie_Ranges.mono _ _
   | exact trie_Trie_Same.mono _ _ _
   | exact LeO.none _
   | refine LeO.ite ?_ ?_
   | refine LeO.bind ?_ (fun _ => ?_)
  ·intro y0 y1 y2 y3 y4 y5 y6
   unfold endonymlaw4_TrieAgain.l2
   repeat' first
   | (with_reducible exact ih0 _ _ _ _)
   | (with_reducible exact ih1 _ _ _ _)
   | (with_reducible exact ih2 _ _ _ _ _)
   | (with_reducible exact ih3 _ _ _ _ _ _)
   | (with_reducible exact ih4 _ _ _ _ _ _ _)
   | (with_reducible exact ih5 _ _ _ _ _)
   | (with_reducible exact ih6 _ _ _ _ _ _)
   | (with_reducible exact ih7 _ _ _ _ _ _ _)
   | (with_reducible exact ih8 _ _ _ _)
   | (with_reducible exact ih9 _ _ _ _ _)
   | (with_reducible exact endonymlaw4_told.mono _)
   | (with_reducible exact trie_Build.mono _ _ _)
   | (with_reducible exact trie_Trie_Ranges.mono _ _)
   | (with_reducible exact trie_Trie_Same.mono _ _ _)
   | (with_reducible exact LeO.refl _)
   | (with_reducible exact LeO.none _)
   | (with_reducible refine LeO.ite ?_ ?_)
   | (with_reducible refine LeO.bind ?_ (fun _ => ?_))
   | exact ih0 _ _ _ _
   | exact ih1 _ _ _ _
   | exact ih2 _ _ _ _ _
   | exact ih3 _ _ _ _ _ _
   | exact ih4 _ _ _ _ _ _ _
   | exact ih5 _ _ _ _ _
   | exact ih6 _ _ _ _ _ _
   | exact ih7 _ _ _ _ _ _ _
   | exact ih8 _ _ _ _
   | exact ih9 _ _ _ _ _
   | exact endonymlaw4_told.mono _
   | exact trie_Build.mono _ _ _
   | exact trie_Trie_Ranges.mono _ _
   | exact trie_Trie_Same.mono _ _ _
   | exact LeO.none _
   | refine LeO.ite ?_ ?_
   | refine LeO.bind ?_ (fun _ => ?_)
  ·intro y0 y1 y2 y3
   unfold endonymlaw4_TrieAgain.l3
   repeat' first
   | (with_reducible exact ih0 _ _ _ _)
   | (with_reducible exact ih1 _ _ _ _)
   | (with_reducible exact ih2 _ _ _ _ _)
   | (with_reducible exact ih3 _ _ _ _ _ _)
   | (with_reducible exact ih4 _ _ _ _ _ _ _)
   | (with_reducible exact ih5 _ _ _ _ _)
   | (with_reducible exact ih6 _ _ _ _ _ _)
   | (with_reducible exact ih7 _ _ _ _ _ _ _)
   | (with_reducible exact ih8 _ _ _ _)
   | (with_reducible exact ih9 _ _ _ _ _)
   | (with_reducible exact endonymlaw4_told.mono _)
   | (with_reducible exact trie_Build.mono _ _ _)
   | (with_reducible exact trie_Trie_Ranges.mono _ _)
   | (with_reducible exact trie_Trie_Same.mono _ _ _)
   | (with_reducible exact LeO.refl _)
   | (with_reducible exact LeO.none _)
   | (with_reducible refine LeO.ite ?_ ?_)
   | (with_reducible refine LeO.bind ?_ (fun _ => ?_))
   | exact ih0 _ _ _ _
   | exact ih1 _ _ _ _
   | exact ih2 _ _ _ _ _
   | exact ih3 _ _ _ _ _ _
   | exact ih4 _ _ _ _ _ _ _
   | exact ih5 _ _ _ _ _
   | exact ih6 _ _ _ _ _ _
   | exact ih7 _ _ _ _ _ _ _
   | exact ih8 _ _ _ _
   | exact ih9 _ _ _ _ _
   | exact endonymlaw4_told.mono _
   | exact trie_Build.mono _ _ _
   | exact trie_Trie_Ranges.mono _ _
   | exact trie_Trie_Same.mono _ _ _
   | exact LeO.none _
   | refine LeO.ite ?_ ?_
   | refine LeO.bind ?_ (fun _ => ?_)
  ·intro y0 y1 y2 y3 y4
   unfold endonymlaw4_TrieAgain.j9
   repeat' first
   | (with_reducible exact ih0 _ _ _ _)
   | (with_reducible exact ih1 _ _ _ _)
   | (with_reducible exact ih2 _ _ _ _ _)
   | (with_reducible exact ih3 _ _ _ _ _ _)
   | (with_reducible exact ih4 _ _ _ _ _ _ _)
   | (with_reducible exact ih5 _ _ _ _ _)
   | (with_reducible exact ih6 _ _ _ _ _ _)
   | (with_reducible exact ih7 _ _ _ _ _ _ _)
   | (with_reducible exact ih8 _ _ _ _)
   | (with_reducible exact ih9 _ _ _ _ _)
   | (with_reducible exact endonymlaw4_told.mono _)
   | (with_reducible exact trie_Build.mono _ _ _)
   | (with_reducible exact trie_Trie_Ranges.mono _ _)
   | (with_reducible exact trie_Trie_Same.mono _ _ _)
   | (with_reducible exact LeO.refl _)
   | (with_reducible exact LeO.none _)
   | (with_reducible refine LeO.ite ?_ ?_)
   | (with_reducible refine LeO.bind ?_ (fun _ => ?_))
   | exact ih0 _ _ _ _
   | exact ih1 _ _ _ _
   | exact ih2 _ _ _ _ _
   | exact ih3 _ _ _ _ _ _
   | exact ih4 _ _ _ _ _ _ _
   | exact ih5 _ _ _ _ _
   | exact ih6 _ _ _ _ _ _
   | exact ih7 _ _ _ _ _ _ _
   | exact ih8 _ _ _ _
   | exact ih9 _ _ _ _ _
   | exact endonymlaw4_told.mono _
   | exact trie_Build.mono _ _ _
   | exact trie_Trie_Ranges.mono _ _
   | exact trie_Trie_Same.mono _ _ _
   | exact LeO.none _
   | refine LeO.ite ?_ ?_
   | refine LeO.bind ?_ (fun _ => ?_)
theorem endonymlaw4_TrieAgain.mono : ∀ a0 a1 a2 k, LeO (endonymlaw4_TrieAgain.f k a0 a1 a2) (endonymlaw4_TrieAgain.f (k + 1) a0 a1 a2) := by
 intro a0 a1 a2 k
 obtain ⟨ih0, ih1, ih2, ih3, ih4, ih5, ih6, ih7, ih8, ih9⟩ := endonymlaw4_TrieAgain.mono_l k
 unfold endonymlaw4_TrieAgain.f
 repeat' first
   | (with_reducible exact ih0 _ _ _ _)
   | (with_reducible exact ih1 _ _ _ _)
   | (with_reducible exact ih2 _ _ _ _ _)
   | (with_reducible exact ih3 _ _ _ _ _ _)
   | (with_reducible exact ih4 _ _ _ _ _ _ _)
   | (with_reducible exact ih5 _ _ _ _ _)
   | (with_reducible exact ih6 _ _ _ _ _ _)
   | (with_reducible exact ih7 _ _ _ _ _ _ _)
   | (with_reducible exact ih8 _ _ _ _)
   | (with_reducible exact ih9 _ _ _ _ _)
   | (with_reducible exact endonymlaw4_told.mono _)
   | (with_reducible exact trie_Build.mono _ _ _)
   | (with_reducible exact trie_Trie_Ranges.mono _ _)
   | (with_reducible exact trie_Trie_Same.mono _ _ _)
   | (with_reducible exact LeO.refl _)
   | (with_reducible exact LeO.none _)
   | (with_reducible refine LeO.ite ?_ ?_)
   | (with_reducible refine LeO.bind ?_ (fun _ => ?_))
   | exact ih0 _ _ _ _
   | exact ih1 _ _ _ _
   | exact ih2 _ _ _ _ _
   | exact ih3 _ _ _ _ _ _
   | exact ih4 _ _ _ _ _ _ _
   | exact ih5 _ _ _ _ _
   | exact ih6 _ _ _ _ _ _
   | exact ih7 _ _ _ _ _ _ _
   | exact ih8 _ _ _ _
   | exact ih9 _ _ _ _ _
   | exact endonymlaw4_told.mono _
   | exact trie_Build.mono _ _ _
   | exact trie_Trie_Ranges.mono _ _
   | exact trie_Trie_Same.mono _ _ _
   | exact LeO.none _
   | refine LeO.ite ?_ ?_
   | refine LeO.bind ?_ (fun _ => ?_)
theorem endonymlaw4_TrieAgain.j1_no {k : Nat} {y2 : List Int} {y7 : List (S57)} {y10 : List (S57)} (h : endonymlaw4_TrieAgain.j1 k y2 y7 y10 true = some true) : False := by
 cases k with
 | zero => simp [endonymlaw4_TrieAgain.j1] at h
 | succ k => rw [endonymlaw4_TrieAgain.j1, if_pos rfl] at h; cases h
theorem endonymlaw4_TrieAgain.j2_no {k : Nat} {y2 : List Int} {y7 : List (S57)} {y13 : List Int} {y14 : List Int} (h : endonymlaw4_TrieAgain.j2 k y2 y7 y13 y14 true = some true) : False := by
 cases k with
 | zero => simp [endonymlaw4_TrieAgain.j2] at h
 | succ k => rw [endonymlaw4_TrieAgain.j2, if_pos rfl] at h; cases h
theorem endonymlaw4_TrieAgain.j4_no {k : Nat} {y2 : List Int} {y7 : List (S57)} {y13 : List Int} {y14 : List Int} {y15 : Int} {y16 : Int} (h : endonymlaw4_TrieAgain.j4 k y2 y7 y13 y14 y15 y16 true = some true) : False := by
 cases k with
 | zero => simp [endonymlaw4_TrieAgain.j4] at h
 | succ k => rw [endonymlaw4_TrieAgain.j4, if_pos rfl] at h; cases h
set_option maxHeartbeats 400000000 in
set_option maxRecDepth 100000 in
theorem endonymlaw4_TrieAgain.calls (k : Nat) (A0 : Option Addr) (c0 : Nat) (l0 : List (S35)) (a1 : Int) (A2 : Option Addr) (c2 : Nat) (l2 : List Int) (w : World) (hr0 : Kd.C k35 w A0 l0.length l0) (hc0 : l0.length ≤ c0) (hr2 : Kd.C (Kd.int .i64) w A2 l2.length l2) (hc2 : l2.length ≤ c2) (h : endonymlaw4_TrieAgain.f k l0 a1 l2 = some true) :
  Calls Try.prog 7 #[.slice A0 l0.length c0, .int .i64 a1, .slice A2 l2.length c2] w fun e w' => e = .returned (.bool true) ∧ Below w.heap.size w w' := by
 have HR0 := Aside0.mk hr0
 have HC0 := Aside0.mk hc0
 clear hr0 hc0
 have HR2 := Aside0.mk hr2
 have HC2 := Aside0.mk hc2
 clear hr2 hc2
 have HB := Aside0.mk (Below.refl w.heap.size w)
 have H : ((endonymlaw4_few.f l0).bind fun bt419 => ((trie_Build.f k bt419.2 a1).bind fun bt425 => (if bt425.2.2 = 0 then (endonymlaw4_TrieAgain.j0 k l2 bt425.1 bt425.2.2 (bt425.1.isEmpty)) else (endonymlaw4_TrieAgain.j0 k l2 bt425.1 bt425.2.2 true)))) = some true := h
 clear h
 replace H := Option.bind_eq_some_iff.mp H
 obtain ⟨⟨t419, t420⟩, A40, H⟩ := H
 replace H : ((trie_Build.f k t420 a1).bind fun bt425 => (if bt425.2.2 = 0 then (endonymlaw4_TrieAgain.j0 k l2 bt425.1 bt425.2.2 (bt425.1.isEmpty)) else (endonymlaw4_TrieAgain.j0 k l2 bt425.1 bt425.2.2 true))) = some true := H
 have A4 := Aside0.mk A40
 clear A40
 replace H := Option.bind_eq_some_iff.mp H
 obtain ⟨⟨t425, t426, t427⟩, A50, H⟩ := H
 replace H : (if t427 = 0 then (endonymlaw4_TrieAgain.j0 k l2 t425 t427 (t425.isEmpty)) else (endonymlaw4_TrieAgain.j0 k l2 t425 t427 true)) = some true := H
 have A5 := Aside0.mk A50
 clear A50
 have HC6 := Aside0.mk H
 clear H
 go_enter Try.func7, Try.ntmps7
 go_upto_region 3 with (first | (go_at_call 8; (with_reducible refine (endonymlaw4_few.calls _ _ l0 t419 t420 _ ?side1 ?side2 A4.out).mono ?_); (case side1 => repeat (first | exact HR0.out | (with_reducible refine Kd.C_alloc ?_ _) | (with_reducible refine Kd.C_drewN ?_ _) | (with_reducible refine Kd.C_drew ?_))); (case side2 => exact HC0.out); rintro e w7 ⟨v421, v423, rfl, ho0, ho1, hb⟩; have n0_ := Aside0.mk (Kd.R_lower ho0 (below_size (by repeat (first | (with_reducible first | exact HB.out | apply below_alloc | apply pw_below_drewN | apply below_drew1) | exact HB.out)))); have n1_ := Aside0.mk (Kd.R_lower ho1 (below_size (by repeat (first | (with_reducible first | exact HB.out | apply below_alloc | apply pw_below_drewN | apply below_drew1) | exact HB.out)))); have n2_ := Aside0.mk (below_step (by repeat (first | (with_reducible first | exact HB.out | apply below_alloc | apply pw_below_drewN | apply below_drew1) | exact HB.out)) hb); clear HB; have HO422 := n0_; have HO424 := n1_; have HB := n2_; clear n0_ n1_ n2_; (try clear hb); (try clear hb2); (try clear hk); (try clear hi); (try clear ho0); (try clear ho1); obtain ⟨Ao8, co8, eo8⟩ := Kd.R_slice HO424.out; subst eo8) | (go_at_call 9; (with_reducible refine (trie_Build.calls k _ _ t420 a1 t425 t426 t427 _ ?side1 ?side2 A5.out).mono ?_); (case side1 => repeat (first | exact (Kd.R_reads' HO424.out).2.2 | (with_reducible refine Kd.C_alloc ?_ _) | (with_reducible refine Kd.C_drewN ?_ _) | (with_reducible refine Kd.C_drew ?_))); (case side2 => exact (Kd.R_reads' HO424.out).2.1); rintro e w9 ⟨v428, rfl, ho0, hb⟩; have n0_ := Aside0.mk (Kd.R_below (by (with_reducible repeat (first | apply Kd.R_alloc | apply Kd.R_drewN | apply Kd.R_drew)); first | exact HO422.out | exact Kd.R_mono HO422.out (fun _ hk => (by first | exact hk | exact fun e_ => hk (e_.trans (own_len _ _ _ _ _))))) hb); have n1_ := Aside0.mk (Kd.R_below (by (with_reducible repeat (first | apply Kd.R_alloc | apply Kd.R_drewN | apply Kd.R_drew)); first | exact HO424.out | exact Kd.R_mono HO424.out (fun _ hk => (by first | exact hk | exact fun e_ => hk (e_.trans (own_len _ _ _ _ _))))) hb); have n2_ := Aside0.mk (Kd.P_lower ho0 (below_size (by repeat (first | (with_reducible first | exact HB.out | apply below_alloc | apply pw_below_drewN | apply below_drew1) | exact HB.out)))); have n3_ := Aside0.mk (below_step (by repeat (first | (with_reducible first | exact HB.out | apply below_alloc | apply pw_below_drewN | apply below_drew1) | exact HB.out)) hb); clear HO422; clear HO424; clear HB; have HO422 := n0_; have HO424 := n1_; have HO429 := n2_; have HB := n3_; clear n0_ n1_ n2_ n3_; (try clear hb); (try clear hb2); (try clear hk); (try clear hi); (try clear ho0)))
 repeat (go_quiet (first | (go_at_call 8; (with_reducible refine (endonymlaw4_few.calls _ _ l0 t419 t420 _ ?side1 ?side2 A4.out).mono ?_); (case side1 => repeat (first | exact HR0.out | (with_reducible refine Kd.C_alloc ?_ _) | (with_reducible refine Kd.C_drewN ?_ _) | (with_reducible refine Kd.C_drew ?_))); (case side2 => exact HC0.out); rintro e w7 ⟨v421, v423, rfl, ho0, ho1, hb⟩; have n0_ := Aside0.mk (Kd.R_lower ho0 (below_size (by repeat (first | (with_reducible first | exact HB.out | apply below_alloc | apply pw_below_drewN | apply below_drew1) | exact HB.out)))); have n1_ := Aside0.mk (Kd.R_lower ho1 (below_size (by repeat (first | (with_reducible first | exact HB.out | apply below_alloc | apply pw_below_drewN | apply below_drew1) | exact HB.out)))); have n2_ := Aside0.mk (below_step (by repeat (first | (with_reducible first | exact HB.out | apply below_alloc | apply pw_below_drewN | apply below_drew1) | exact HB.out)) hb); clear HB; have HO422 := n0_; have HO424 := n1_; have HB := n2_; clear n0_ n1_ n2_; (try clear hb); (try clear hb2); (try clear hk); (try clear hi); (try clear ho0); (try clear ho1); obtain ⟨Ao8, co8, eo8⟩ := Kd.R_slice HO424.out; subst eo8) | (go_at_call 9; (with_reducible refine (trie_Build.calls k _ _ t420 a1 t425 t426 t427 _ ?side1 ?side2 A5.out).mono ?_); (case side1 => repeat (first | exact (Kd.R_reads' HO424.out).2.2 | (with_reducible refine Kd.C_alloc ?_ _) | (with_reducible refine Kd.C_drewN ?_ _) | (with_reducible refine Kd.C_drew ?_))); (case side2 => exact (Kd.R_reads' HO424.out).2.1); rintro e w9 ⟨v428, rfl, ho0, hb⟩; have n0_ := Aside0.mk (Kd.R_below (by (with_reducible repeat (first | apply Kd.R_alloc | apply Kd.R_drewN | apply Kd.R_drew)); first | exact HO422.out | exact Kd.R_mono HO422.out (fun _ hk => (by first | exact hk | exact fun e_ => hk (e_.trans (own_len _ _ _ _ _))))) hb); have n1_ := Aside0.mk (Kd.R_below (by (with_reducible repeat (first | apply Kd.R_alloc | apply Kd.R_drewN | apply Kd.R_drew)); first | exact HO424.out | exact Kd.R_mono HO424.out (fun _ hk => (by first | exact hk | exact fun e_ => hk (e_.trans (own_len _ _ _ _ _))))) hb); have n2_ := Aside0.mk (Kd.P_lower ho0 (below_size (by repeat (first | (with_reducible first | exact HB.out | apply below_alloc | apply pw_below_drewN | apply below_drew1) | exact HB.out)))); have n3_ := Aside0.mk (below_step (by repeat (first | (with_reducible first | exact HB.out | apply below_alloc | apply pw_below_drewN | apply below_drew1) | exact HB.out)) hb); clear HO422; clear HO424; clear HB; have HO422 := n0_; have HO424 := n1_; have HO429 := n2_; have HB := n3_; clear n0_ n1_ n2_ n3_; (try clear hb); (try clear hb2); (try clear hk); (try clear hi); (try clear ho0))); go_upto_region 3 with (first | (go_at_call 8; (with_reducible refine (endonymlaw4_few.calls _ _ l0 t419 t420 _ ?side1 ?side2 A4.out).mono ?_); (case side1 => repeat (first | exact HR0.out | (with_reducible refine Kd.C_alloc ?_ _) | (with_reducible refine Kd.C_drewN ?_ _) | (with_reducible refine Kd.C_drew ?_))); (case side2 => exact HC0.out); rintro e w7 ⟨v421, v423, rfl, ho0, ho1, hb⟩; have n0_ := Aside0.mk (Kd.R_lower ho0 (below_size (by repeat (first | (with_reducible first | exact HB.out | apply below_alloc | apply pw_below_drewN | apply below_drew1) | exact HB.out)))); have n1_ := Aside0.mk (Kd.R_lower ho1 (below_size (by repeat (first | (with_reducible first | exact HB.out | apply below_alloc | apply pw_below_drewN | apply below_drew1) | exact HB.out)))); have n2_ := Aside0.mk (below_step (by repeat (first | (with_reducible first | exact HB.out | apply below_alloc | apply pw_below_drewN | apply below_drew1) | exact HB.out)) hb); clear HB; have HO422 := n0_; have HO424 := n1_; have HB := n2_; clear n0_ n1_ n2_; (try clear hb); (try clear hb2); (try clear hk); (try clear hi); (try clear ho0); (try clear ho1); obtain ⟨Ao8, co8, eo8⟩ := Kd.R_slice HO424.out; subst eo8) | (go_at_call 9; (with_reducible refine (trie_Build.calls k _ _ t420 a1 t425 t426 t427 _ ?side1 ?side2 A5.out).mono ?_); (case side1 => repeat (first | exact (Kd.R_reads' HO424.out).2.2 | (with_reducible refine Kd.C_alloc ?_ _) | (with_reducible refine Kd.C_drewN ?_ _) | (with_reducible refine Kd.C_drew ?_))); (case side2 => exact (Kd.R_reads' HO424.out).2.1); rintro e w9 ⟨v428, rfl, ho0, hb⟩; have n0_ := Aside0.mk (Kd.R_below (by (with_reducible repeat (first | apply Kd.R_alloc | apply Kd.R_drewN | apply Kd.R_drew)); first | exact HO422.out | exact Kd.R_mono HO422.out (fun _ hk => (by first | exact hk | exact fun e_ => hk (e_.trans (own_len _ _ _ _ _))))) hb); have n1_ := Aside0.mk (Kd.R_below (by (with_reducible repeat (first | apply Kd.R_alloc | apply Kd.R_drewN | apply Kd.R_drew)); first | exact HO424.out | exact Kd.R_mono HO424.out (fun _ hk => (by first | exact hk | exact fun e_ => hk (e_.trans (own_len _ _ _ _ _))))) hb); have n2_ := Aside0.mk (Kd.P_lower ho0 (below_size (by repeat (first | (with_reducible first | exact HB.out | apply below_alloc | apply pw_below_drewN | apply below_drew1) | exact HB.out)))); have n3_ := Aside0.mk (below_step (by repeat (first | (with_reducible first | exact HB.out | apply below_alloc | apply pw_below_drewN | apply below_drew1) | exact HB.out)) hb); clear HO422; clear HO424; clear HB; have HO422 := n0_; have HO424 := n1_; have HO429 := n2_; have HB := n3_; clear n0_ n1_ n2_ n3_; (try clear hb); (try clear hb2); (try clear hk); (try clear hi); (try clear ho0))))
 (try simp only [Act.put, List.setIfInBounds_toArray, List.set_cons_zero, List.set_cons_succ])
 go_cut [44] (fun v44 wc => ∃ (kq : Nat) (x44_5 : Bool), v44 = .bool x44_5 ∧ Aside0 (endonymlaw4_TrieAgain.j0 kq l2 t425 t427 x44_5 = some true) ∧ Aside0 (kq ≤ k) ∧ Aside0 (Kd.P k57 57 wc w.heap.size (fun _ => True) v428 t425) ∧ Aside0 (Below w.heap.size w wc))
 case first =>
  have H := HC6.out
  clear HC6
  by_cases c10 : t427 = 0
  ·rw [if_pos c10] at H
   have c10b0 : (t427 == 0) = true := beq_iff_eq.mpr c10
   have c10b1 : (t427 != 0) = false := bne_eq_false_iff_eq.mpr c10
   clear c10
   (first | rw [c10b0] | (simp only [i64_w, i32_w]; rw [c10b0]) | skip)
   as_aux_lemma =>
    have H' := Aside0.mk H
    clear H
    obtain ⟨Ao11, co11, eo11⟩ := Kd.P_slice HO429.out
    subst eo11
    have hz12 := Kd.PC_isNone ((Kd.P_reads' HO429.out).2.2)
    go_wp2
    repeat (go_quiet (fail); try go_wp2)
    go_meet
    case rel => exact ⟨_, ((t425.isEmpty)), (by first | rfl | (simp; done) | (simp [*]; done)), H', ⟨by first | omega | exact Nat.le_refl _⟩, ⟨by (with_reducible repeat (first | apply Kd.P_alloc | apply Kd.P_drewN | apply Kd.P_drew)); exact HO429.out⟩, ⟨by repeat (first | (with_reducible first | exact HB.out | apply below_alloc | apply pw_below_drewN | apply below_drew1) | exact HB.out)⟩⟩
  ·rw [if_neg c10] at H
   have c10b0 : (t427 == 0) = false := beq_eq_false_iff_ne.mpr c10
   have c10b1 : (t427 != 0) = true := bne_iff_ne.mpr c10
   (first | rw [c10b0] | (simp only [i64_w, i32_w]; rw [c10b0]) | skip)
   as_aux_lemma =>
    have H' := Aside0.mk H
    clear H
    go_wp2
    repeat (go_quiet (fail); try go_wp2)
    go_meet
    case rel => exact ⟨_, (true), (by first | rfl | (simp; done) | (simp [*]; done)), H', ⟨by first | omega | exact Nat.le_refl _⟩, ⟨by (with_reducible repeat (first | apply Kd.P_alloc | apply Kd.P_drewN | apply Kd.P_drew)); exact HO429.out⟩, ⟨by repeat (first | (with_reducible first | exact HB.out | apply below_alloc | apply pw_below_drewN | apply below_drew1) | exact HB.out)⟩⟩
 case rest =>
  clear HC6
  (try clear c1); (try clear c2); (try clear p2); (try clear c7); (try clear c10); (try clear c10b0); (try clear c10b1)
  obtain ⟨kq, x44_5, rfl, HA, HJ5, HO_7, HB⟩ := hcut
  cases kq with
  | zero => exact absurd HA.out (by simp [endonymlaw4_TrieAgain.j0])
  | succ kj5 =>
   have H := HA.out
   clear HA
   simp only [endonymlaw4_TrieAgain.j0] at H
   by_cases c13 : x44_5 = true
   ·subst c13
    have H1 : ((endonymlaw4_told.f kj5).bind fun t430 => (if t430 = true then (some (t427 != 0)) else (some false))) = some true := by rw [if_pos rfl] at H; exact H
    clear H
    have H := H1
    clear H1
    replace H := Option.bind_eq_some_iff.mp H
    obtain ⟨t430, A140, H⟩ := H
    replace H : (if t430 = true then (some (t427 != 0)) else (some false)) = some true := H
    have A14 := Aside0.mk A140
    clear A140
    by_cases c15 : t430 = true
    ·subst c15
     have H1 : (some (t427 != 0)) = some true := by rw [if_pos rfl] at H; exact H
     clear H
     have H := H1
     clear H1
     as_aux_lemma =>
      have hR_ := Option.some.inj H
      go_wp2_with (first | (go_at_call 11; (with_reducible refine (endonymlaw4_told.calls kj5  true _ A14.out).mono ?_); rintro e w16 ⟨rfl, hb⟩; have n0_ := Aside0.mk (Kd.P_below (by (with_reducible repeat (first | apply Kd.P_alloc | apply Kd.P_drewN | apply Kd.P_drew)); exact HO_7.out) hb); have n1_ := Aside0.mk (below_step (by repeat (first | (with_reducible first | exact HB.out | apply below_alloc | apply pw_below_drewN | apply below_drew1) | exact HB.out)) hb); clear HO_7; clear HB; have HO_7 := n0_; have HB := n1_; clear n0_ n1_; (try clear hb); (try clear hb2); (try clear hk); (try clear hi)))
      repeat (go_quiet (first | (go_at_call 11; (with_reducible refine (endonymlaw4_told.calls kj5  true _ A14.out).mono ?_); rintro e w16 ⟨rfl, hb⟩; have n0_ := Aside0.mk (Kd.P_below (by (with_reducible repeat (first | apply Kd.P_alloc | apply Kd.P_drewN | apply Kd.P_drew)); exact HO_7.out) hb); have n1_ := Aside0.mk (below_step (by repeat (first | (with_reducible first | exact HB.out | apply below_alloc | apply pw_below_drewN | apply below_drew1) | exact HB.out)) hb); clear HO_7; clear HB; have HO_7 := n0_; have HB := n1_; clear n0_ n1_; (try clear hb); (try clear hb2); (try clear hk); (try clear hi))); try go_wp2_with (first | (go_at_call 11; (with_reducible refine (endonymlaw4_told.calls kj5  true _ A14.out).mono ?_); rintro e w16 ⟨rfl, hb⟩; have n0_ := Aside0.mk (Kd.P_below (by (with_reducible repeat (first | apply Kd.P_alloc | apply Kd.P_drewN | apply Kd.P_drew)); exact HO_7.out) hb); have n1_ := Aside0.mk (below_step (by repeat (first | (with_reducible first | exact HB.out | apply below_alloc | apply pw_below_drewN | apply below_drew1) | exact HB.out)) hb); clear HO_7; clear HB; have HO_7 := n0_; have HB := n1_; clear n0_ n1_; (try clear hb); (try clear hb2); (try clear hk); (try clear hi))))
      go_ret
      exact ⟨by first | rfl | (rw [← hR_]; first | rfl | (simp only [hR_]; rfl)) | (simp only [hR_]; rfl) | (simp only [hR_]; done) | (simp [errW_none, errW_some] <;> rfl) | (simp [*, errW_none, errW_some] <;> rfl), by repeat (first | (with_reducible first | exact HB.out | apply below_alloc | apply pw_below_drewN | apply below_drew1) | exact HB.out)⟩
    ·replace c15 := Bool.eq_false_iff.mpr c15
     subst c15
     have H1 : (some false) = some true := by rw [if_neg (show ¬ (false = true) by decide)] at H; exact H
     clear H
     have H := H1
     clear H1
     exact absurd H (by simp)
   ·replace c13 := Bool.eq_false_iff.mpr c13
    subst c13
    have H1 : ((trie_Trie_Ranges.f kj5 t425).bind fun t431 => ((trie_Trie_Default.f t425).bind fun t434 => ((trie_Build.f kj5 t431 t434).bind fun bt435 => ((endonymlaw4_told.f kj5).bind fun t440 => (if t440 = true then (if bt435.2.2 = 0 then (if (bt435.1.isEmpty) = true then (endonymlaw4_TrieAgain.j1 kj5 l2 t425 bt435.1 true) else ((trie_Trie_Same.f kj5 bt435.1 t425).bind fun t441 => (if t441 = true then ((trie_Trie_Blocks.f bt435.1).bind fun t442 => ((trie_Trie_Blocks.f t425).bind fun t443 => (endonymlaw4_TrieAgain.j1 kj5 l2 t425 bt435.1 (t442 != t443)))) else (endonymlaw4_TrieAgain.j1 kj5 l2 t425 bt435.1 true)))) else (endonymlaw4_TrieAgain.j1 kj5 l2 t425 bt435.1 true)) else (endonymlaw4_TrieAgain.j1 kj5 l2 t425 bt435.1 true)))))) = some true := by rw [if_neg (show ¬ (false = true) by decide)] at H; exact H
    clear H
    have H := H1
    clear H1
    replace H := Option.bind_eq_some_iff.mp H
    obtain ⟨t431, A170, H⟩ := H
    replace H : ((trie_Trie_Default.f t425).bind fun t434 => ((trie_Build.f kj5 t431 t434).bind fun bt435 => ((endonymlaw4_told.f kj5).bind fun t440 => (if t440 = true then (if bt435.2.2 = 0 then (if (bt435.1.isEmpty) = true then (endonymlaw4_TrieAgain.j1 kj5 l2 t425 bt435.1 true) else ((trie_Trie_Same.f kj5 bt435.1 t425).bind fun t441 => (if t441 = true then ((trie_Trie_Blocks.f bt435.1).bind fun t442 => ((trie_Trie_Blocks.f t425).bind fun t443 => (endonymlaw4_TrieAgain.j1 kj5 l2 t425 bt435.1 (t442 != t443)))) else (endonymlaw4_TrieAgain.j1 kj5 l2 t425 bt435.1 true)))) else (endonymlaw4_TrieAgain.j1 kj5 l2 t425 bt435.1 true)) else (endonymlaw4_TrieAgain.j1 kj5 l2 t425 bt435.1 true))))) = some true := H
    have A17 := Aside0.mk A170
    clear A170
    replace H := Option.bind_eq_some_iff.mp H
    obtain ⟨t434, A180, H⟩ := H
    replace H : ((trie_Build.f kj5 t431 t434).bind fun bt435 => ((endonymlaw4_told.f kj5).bind fun t440 => (if t440 = true then (if bt435.2.2 = 0 then (if (bt435.1.isEmpty) = true then (endonymlaw4_TrieAgain.j1 kj5 l2 t425 bt435.1 true) else ((trie_Trie_Same.f kj5 bt435.1 t425).bind fun t441 => (if t441 = true then ((trie_Trie_Blocks.f bt435.1).bind fun t442 => ((trie_Trie_Blocks.f t425).bind fun t443 => (endonymlaw4_TrieAgain.j1 kj5 l2 t425 bt435.1 (t442 != t443)))) else (endonymlaw4_TrieAgain.j1 kj5 l2 t425 bt435.1 true)))) else (endonymlaw4_TrieAgain.j1 kj5 l2 t425 bt435.1 true)) else (endonymlaw4_TrieAgain.j1 kj5 l2 t425 bt435.1 true)))) = some true := H
    have A18 := Aside0.mk A180
    clear A180
    replace H := Option.bind_eq_some_iff.mp H
    obtain ⟨⟨t435, t436, t437⟩, A190, H⟩ := H
    replace H : ((endonymlaw4_told.f kj5).bind fun t440 => (if t440 = true then (if t437 = 0 then (if (t435.isEmpty) = true then (endonymlaw4_TrieAgain.j1 kj5 l2 t425 t435 true) else ((trie_Trie_Same.f kj5 t435 t425).bind fun t441 => (if t441 = true then ((trie_Trie_Blocks.f t435).bind fun t442 => ((trie_Trie_Blocks.f t425).bind fun t443 => (endonymlaw4_TrieAgain.j1 kj5 l2 t425 t435 (t442 != t443)))) else (endonymlaw4_TrieAgain.j1 kj5 l2 t425 t435 true)))) else (endonymlaw4_TrieAgain.j1 kj5 l2 t425 t435 true)) else (endonymlaw4_TrieAgain.j1 kj5 l2 t425 t435 true))) = some true := H
    have A19 := Aside0.mk A190
    clear A190
    have HC20 := Aside0.mk H
    clear H
    obtain ⟨Ao21, co21, eo21⟩ := Kd.P_slice HO_7.out
    subst eo21
    go_upto_region 6 with (first | (go_at_call 20; (with_reducible refine (trie_Trie_Ranges.calls kj5 _ t425 t431 _ ?side1 A17.out).mono ?_); (case side1 => repeat (first | exact (Kd.P_reads' HO_7.out).2.2 | (with_reducible refine Kd.PC_alloc ?_ _) | (with_reducible refine Kd.PC_drewN ?_ _) | (with_reducible refine Kd.PC_drew ?_))); rintro e w22 ⟨v432, rfl, ho0, hb⟩; have n0_ := Aside0.mk (Kd.P_below (by (with_reducible repeat (first | apply Kd.P_alloc | apply Kd.P_drewN | apply Kd.P_drew)); exact HO_7.out) hb); have n1_ := Aside0.mk (Kd.R_lower ho0 (below_size (by repeat (first | (with_reducible first | exact HB.out | apply below_alloc | apply pw_below_drewN | apply below_drew1) | exact HB.out)))); have n2_ := Aside0.mk (below_step (by repeat (first | (with_reducible first | exact HB.out | apply below_alloc | apply pw_below_drewN | apply below_drew1) | exact HB.out)) hb); clear HO_7; clear HB; have HO_7 := n0_; have HO433 := n1_; have HB := n2_; clear n0_ n1_ n2_; (try clear hb); (try clear hb2); (try clear hk); (try clear hi); (try clear ho0)) | (go_at_call 15; (with_reducible refine (trie_Trie_Default.calls _ t425 t434 _ ?side1 A18.out).mono ?_); (case side1 => repeat (first | exact (Kd.P_reads' HO_7.out).2.2 | (with_reducible refine Kd.PC_alloc ?_ _) | (with_reducible refine Kd.PC_drewN ?_ _) | (with_reducible refine Kd.PC_drew ?_))); rintro e w' ⟨rfl, ⟨nd, rfl⟩⟩; (try first | exact ⟨rfl, _, World.drewN_drewN _ _ _⟩ | exact ⟨rfl, _, Eq.trans (World.drewN_drewN _ _ _) (congrArg (World.drewN _) (Nat.add_assoc _ _ _))⟩); obtain ⟨Ao23, co23, eo23⟩ := Kd.R_slice HO433.out; subst eo23) | (go_at_call 9; (with_reducible refine (trie_Build.calls kj5 _ _ t431 t434 t435 t436 t437 _ ?side1 ?side2 A19.out).mono ?_); (case side1 => repeat (first | exact (Kd.R_reads' HO433.out).2.2 | (with_reducible refine Kd.C_alloc ?_ _) | (with_reducible refine Kd.C_drewN ?_ _) | (with_reducible refine Kd.C_drew ?_))); (case side2 => exact (Kd.R_reads' HO433.out).2.1); rintro e w24 ⟨v438, rfl, ho0, hb⟩; have n0_ := Aside0.mk (Kd.P_elder' (by (with_reducible repeat (first | apply Kd.P_alloc | apply Kd.P_drewN | apply Kd.P_drew)); exact HO_7.out) (Kd.P_base ho0) hb); have n1_ := Aside0.mk (Kd.R_below (by (with_reducible repeat (first | apply Kd.R_alloc | apply Kd.R_drewN | apply Kd.R_drew)); exact HO433.out) hb); have n2_ := Aside0.mk (Kd.P_lower (Kd.P_new' ho0 (Kd.P_lt (by (with_reducible repeat (first | apply Kd.P_alloc | apply Kd.P_drewN | apply Kd.P_drew)); exact HO_7.out))) (below_size (by repeat (first | (with_reducible first | exact HB.out | apply below_alloc | apply pw_below_drewN | apply below_drew1) | exact HB.out)))); have n3_ := Aside0.mk (below_step (by repeat (first | (with_reducible first | exact HB.out | apply below_alloc | apply pw_below_drewN | apply below_drew1) | exact HB.out)) hb); clear HO_7; clear HO433; clear HB; have HO_7 := n0_; have HO433 := n1_; have HO439 := n2_; have HB := n3_; clear n0_ n1_ n2_ n3_; (try clear hb); (try clear hb2); (try clear hk); (try clear hi); (try clear ho0)))
    repeat (go_quiet (first | (go_at_call 20; (with_reducible refine (trie_Trie_Ranges.calls kj5 _ t425 t431 _ ?side1 A17.out).mono ?_); (case side1 => repeat (first | exact (Kd.P_reads' HO_7.out).2.2 | (with_reducible refine Kd.PC_alloc ?_ _) | (with_reducible refine Kd.PC_drewN ?_ _) | (with_reducible refine Kd.PC_drew ?_))); rintro e w22 ⟨v432, rfl, ho0, hb⟩; have n0_ := Aside0.mk (Kd.P_below (by (with_reducible repeat (first | apply Kd.P_alloc | apply Kd.P_drewN | apply Kd.P_drew)); exact HO_7.out) hb); have n1_ := Aside0.mk (Kd.R_lower ho0 (below_size (by repeat (first | (with_reducible first | exact HB.out | apply below_alloc | apply pw_below_drewN | apply below_drew1) | exact HB.out)))); have n2_ := Aside0.mk (below_step (by repeat (first | (with_reducible first | exact HB.out | apply below_alloc | apply pw_below_drewN | apply below_drew1) | exact HB.out)) hb); clear HO_7; clear HB; have HO_7 := n0_; have HO433 := n1_; have HB := n2_; clear n0_ n1_ n2_; (try clear hb); (try clear hb2); (try clear hk); (try clear hi); (try clear ho0)) | (go_at_call 15; (with_reducible refine (trie_Trie_Default.calls _ t425 t434 _ ?side1 A18.out).mono ?_); (case side1 => repeat (first | exact (Kd.P_reads' HO_7.out).2.2 | (with_reducible refine Kd.PC_alloc ?_ _) | (with_reducible refine Kd.PC_drewN ?_ _) | (with_reducible refine Kd.PC_drew ?_))); rintro e w' ⟨rfl, ⟨nd, rfl⟩⟩; (try first | exact ⟨rfl, _, World.drewN_drewN _ _ _⟩ | exact ⟨rfl, _, Eq.trans (World.drewN_drewN _ _ _) (congrArg (World.drewN _) (Nat.add_assoc _ _ _))⟩); obtain ⟨Ao23, co23, eo23⟩ := Kd.R_slice HO433.out; subst eo23) | (go_at_call 9; (with_reducible refine (trie_Build.calls kj5 _ _ t431 t434 t435 t436 t437 _ ?side1 ?side2 A19.out).mono ?_); (case side1 => repeat (first | exact (Kd.R_reads' HO433.out).2.2 | (with_reducible refine Kd.C_alloc ?_ _) | (with_reducible refine Kd.C_drewN ?_ _) | (with_reducible refine Kd.C_drew ?_))); (case side2 => exact (Kd.R_reads' HO433.out).2.1); rintro e w24 ⟨v438, rfl, ho0, hb⟩; have n0_ := Aside0.mk (Kd.P_elder' (by (with_reducible repeat (first | apply Kd.P_alloc | apply Kd.P_drewN | apply Kd.P_drew)); exact HO_7.out) (Kd.P_base ho0) hb); have n1_ := Aside0.mk (Kd.R_below (by (with_reducible repeat (first | apply Kd.R_alloc | apply Kd.R_drewN | apply Kd.R_drew)); exact HO433.out) hb); have n2_ := Aside0.mk (Kd.P_lower (Kd.P_new' ho0 (Kd.P_lt (by (with_reducible repeat (first | apply Kd.P_alloc | apply Kd.P_drewN | apply Kd.P_drew)); exact HO_7.out))) (below_size (by repeat (first | (with_reducible first | exact HB.out | apply below_alloc | apply pw_below_drewN | apply below_drew1) | exact HB.out)))); have n3_ := Aside0.mk (below_step (by repeat (first | (with_reducible first | exact HB.out | apply below_alloc | apply pw_below_drewN | apply below_drew1) | exact HB.out)) hb); clear HO_7; clear HO433; clear HB; have HO_7 := n0_; have HO433 := n1_; have HO439 := n2_; have HB := n3_; clear n0_ n1_ n2_ n3_; (try clear hb); (try clear hb2); (try clear hk); (try clear hi); (try clear ho0))); go_upto_region 6 with (first | (go_at_call 20; (with_reducible refine (trie_Trie_Ranges.calls kj5 _ t425 t431 _ ?side1 A17.out).mono ?_); (case side1 => repeat (first | exact (Kd.P_reads' HO_7.out).2.2 | (with_reducible refine Kd.PC_alloc ?_ _) | (with_reducible refine Kd.PC_drewN ?_ _) | (with_reducible refine Kd.PC_drew ?_))); rintro e w22 ⟨v432, rfl, ho0, hb⟩; have n0_ := Aside0.mk (Kd.P_below (by (with_reducible repeat (first | apply Kd.P_alloc | apply Kd.P_drewN | apply Kd.P_drew)); exact HO_7.out) hb); have n1_ := Aside0.mk (Kd.R_lower ho0 (below_size (by repeat (first | (with_reducible first | exact HB.out | apply below_alloc | apply pw_below_drewN | apply below_drew1) | exact HB.out)))); have n2_ := Aside0.mk (below_step (by repeat (first | (with_reducible first | exact HB.out | apply below_alloc | apply pw_below_drewN | apply below_drew1) | exact HB.out)) hb); clear HO_7; clear HB; have HO_7 := n0_; have HO433 := n1_; have HB := n2_; clear n0_ n1_ n2_; (try clear hb); (try clear hb2); (try clear hk); (try clear hi); (try clear ho0)) | (go_at_call 15; (with_reducible refine (trie_Trie_Default.calls _ t425 t434 _ ?side1 A18.out).mono ?_); (case side1 => repeat (first | exact (Kd.P_reads' HO_7.out).2.2 | (with_reducible refine Kd.PC_alloc ?_ _) | (with_reducible refine Kd.PC_drewN ?_ _) | (with_reducible refine Kd.PC_drew ?_))); rintro e w' ⟨rfl, ⟨nd, rfl⟩⟩; (try first | exact ⟨rfl, _, World.drewN_drewN _ _ _⟩ | exact ⟨rfl, _, Eq.trans (World.drewN_drewN _ _ _) (congrArg (World.drewN _) (Nat.add_assoc _ _ _))⟩); obtain ⟨Ao23, co23, eo23⟩ := Kd.R_slice HO433.out; subst eo23) | (go_at_call 9; (with_reducible refine (trie_Build.calls kj5 _ _ t431 t434 t435 t436 t437 _ ?side1 ?side2 A19.out).mono ?_); (case side1 => repeat (first | exact (Kd.R_reads' HO433.out).2.2 | (with_reducible refine Kd.C_alloc ?_ _) | (with_reducible refine Kd.C_drewN ?_ _) | (with_reducible refine Kd.C_drew ?_))); (case side2 => exact (Kd.R_reads' HO433.out).2.1); rintro e w24 ⟨v438, rfl, ho0, hb⟩; have n0_ := Aside0.mk (Kd.P_elder' (by (with_reducible repeat (first | apply Kd.P_alloc | apply Kd.P_drewN | apply Kd.P_drew)); exact HO_7.out) (Kd.P_base ho0) hb); have n1_ := Aside0.mk (Kd.R_below (by (with_reducible repeat (first | apply Kd.R_alloc | apply Kd.R_drewN | apply Kd.R_drew)); exact HO433.out) hb); have n2_ := Aside0.mk (Kd.P_lower (Kd.P_new' ho0 (Kd.P_lt (by (with_reducible repeat (first | apply Kd.P_alloc | apply Kd.P_drewN | apply Kd.P_drew)); exact HO_7.out))) (below_size (by repeat (first | (with_reducible first | exact HB.out | apply below_alloc | apply pw_below_drewN | apply below_drew1) | exact HB.out)))); have n3_ := Aside0.mk (below_step (by repeat (first | (with_reducible first | exact HB.out | apply below_alloc | apply pw_below_drewN | apply below_drew1) | exact HB.out)) hb); clear HO_7; clear HO433; clear HB; have HO_7 := n0_; have HO433 := n1_; have HO439 := n2_; have HB := n3_; clear n0_ n1_ n2_ n3_; (try clear hb); (try clear hb2); (try clear hk); (try clear hi); (try clear ho0))))
    (try simp only [Act.put, List.setIfInBounds_toArray, List.set_cons_zero, List.set_cons_succ])
    go_cut [81] (fun v81 wc => ∃ (kq : Nat) (x81_19 : Bool), v81 = .bool x81_19 ∧ Aside0 (endonymlaw4_TrieAgain.j1 kq l2 t425 t435 x81_19 = some true) ∧ Aside0 (kq ≤ kj5) ∧ Aside0 (Kd.P k57 57 wc w.heap.size (fun k_ => some k_ ≠ (v438 : Value).ownBlock) (.pointer Ao21) t425) ∧ Aside0 (Kd.P k57 57 wc w.heap.size (fun k_ => some k_ ≠ ((.pointer Ao21) : Value).ownBlock) v438 t435) ∧ Aside0 (Below w.heap.size w wc))
    case first =>
     have H := HC20.out
     clear HC20
     replace H := Option.bind_eq_some_iff.mp H
     obtain ⟨t440, A250, H⟩ := H
     replace H : (if t440 = true then (if t437 = 0 then (if (t435.isEmpty) = true then (endonymlaw4_TrieAgain.j1 kj5 l2 t425 t435 true) else ((trie_Trie_Same.f kj5 t435 t425).bind fun t441 => (if t441 = true then ((trie_Trie_Blocks.f t435).bind fun t442 => ((trie_Trie_Blocks.f t425).bind fun t443 => (endonymlaw4_TrieAgain.j1 kj5 l2 t425 t435 (t442 != t443)))) else (endonymlaw4_TrieAgain.j1 kj5 l2 t425 t435 true)))) else (endonymlaw4_TrieAgain.j1 kj5 l2 t425 t435 true)) else (endonymlaw4_TrieAgain.j1 kj5 l2 t425 t435 true)) = some true := H
     have A25 := Aside0.mk A250
     clear A250
     by_cases c26 : t440 = true
     ·subst c26
      have H1 : (if t437 = 0 then (if (t435.isEmpty) = true then (endonymlaw4_TrieAgain.j1 kj5 l2 t425 t435 true) else ((trie_Trie_Same.f kj5 t435 t425).bind fun t441 => (if t441 = true then ((trie_Trie_Blocks.f t435).bind fun t442 => ((trie_Trie_Blocks.f t425).bind fun t443 => (endonymlaw4_TrieAgain.j1 kj5 l2 t425 t435 (t442 != t443)))) else (endonymlaw4_TrieAgain.j1 kj5 l2 t425 t435 true)))) else (endonymlaw4_TrieAgain.j1 kj5 l2 t425 t435 true)) = some true := by rw [if_pos rfl] at H; exact H
      clear H
      have H := H1
      clear H1
      by_cases c27 : t437 = 0
      ·rw [if_pos c27] at H
       have c27b0 : (t437 == 0) = true := beq_iff_eq.mpr c27
       have c27b1 : (t437 != 0) = false := bne_eq_false_iff_eq.mpr c27
       clear c27
       (first | rw [c27b0] | (simp only [i64_w, i32_w]; rw [c27b0]) | skip)
       by_cases c28 : (t435.isEmpty) = true
       ·rw [if_pos c28] at H
        have c28b0 : (t435.isEmpty) = true := c28
        clear c28
        exact (endonymlaw4_TrieAgain.j1_no H).elim
       ·rw [if_neg c28] at H
        have c28b0 : (t435.isEmpty) = false := by simpa using c28
        clear c28
        replace H := Option.bind_eq_some_iff.mp H
        obtain ⟨t441, A290, H⟩ := H
        replace H : (if t441 = true then ((trie_Trie_Blocks.f t435).bind fun t442 => ((trie_Trie_Blocks.f t425).bind fun t443 => (endonymlaw4_TrieAgain.j1 kj5 l2 t425 t435 (t442 != t443)))) else (endonymlaw4_TrieAgain.j1 kj5 l2 t425 t435 true)) = some true := H
        have A29 := Aside0.mk A290
        clear A290
        by_cases c30 : t441 = true
        ·subst c30
         have H1 : ((trie_Trie_Blocks.f t435).bind fun t442 => ((trie_Trie_Blocks.f t425).bind fun t443 => (endonymlaw4_TrieAgain.j1 kj5 l2 t425 t435 (t442 != t443)))) = some true := by rw [if_pos rfl] at H; exact H
         clear H
         have H := H1
         clear H1
         replace H := Option.bind_eq_some_iff.mp H
         obtain ⟨t442, A310, H⟩ := H
         replace H : ((trie_Trie_Blocks.f t425).bind fun t443 => (endonymlaw4_TrieAgain.j1 kj5 l2 t425 t435 (t442 != t443))) = some true := H
         have A31 := Aside0.mk A310
         clear A310
         replace H := Option.bind_eq_some_iff.mp H
         obtain ⟨t443, A320, H⟩ := H
         replace H : (endonymlaw4_TrieAgain.j1 kj5 l2 t425 t435 (t442 != t443)) = some true := H
         have A32 := Aside0.mk A320
         clear A320
         as_aux_lemma =>
          have H' := Aside0.mk H
          clear H
          go_wp2_with (first | (go_at_call 11; (with_reducible refine (endonymlaw4_told.calls kj5  true _ A25.out).mono ?_); rintro e w33 ⟨rfl, hb⟩; have n0_ := Aside0.mk (Kd.P_below (by (with_reducible repeat (first | apply Kd.P_alloc | apply Kd.P_drewN | apply Kd.P_drew)); first | exact HO_7.out | exact Kd.P_mono HO_7.out (fun _ hk => ⟨trivial, (by first | exact hk.2 | exact fun e_ => hk.2 (e_.trans (own_len _ _ _ _ _)))⟩)) hb); have n1_ := Aside0.mk (Kd.R_below (by (with_reducible repeat (first | apply Kd.R_alloc | apply Kd.R_drewN | apply Kd.R_drew)); exact HO433.out) hb); have n2_ := Aside0.mk (Kd.P_below (by (with_reducible repeat (first | apply Kd.P_alloc | apply Kd.P_drewN | apply Kd.P_drew)); first | exact HO439.out | exact Kd.P_mono HO439.out (fun _ hk => ⟨trivial, (by first | exact hk.2 | exact fun e_ => hk.2 (e_.trans (own_len _ _ _ _ _)))⟩)) hb); have n3_ := Aside0.mk (below_step (by repeat (first | (with_reducible first | exact HB.out | apply below_alloc | apply pw_below_drewN | apply below_drew1) | exact HB.out)) hb); clear HO_7; clear HO433; clear HO439; clear HB; have HO_7 := n0_; have HO433 := n1_; have HO439 := n2_; have HB := n3_; clear n0_ n1_ n2_ n3_; (try clear hb); (try clear hb2); (try clear hk); (try clear hi); obtain ⟨Ao34, co34, eo34⟩ := Kd.P_slice HO439.out; subst eo34; have hz35 := Kd.PC_isNone ((Kd.P_reads' HO439.out).2.2)) | (go_at_call 17; (with_reducible refine (trie_Trie_Same.calls kj5 _ t435 _ t425 true _ ?side1 ?side2 A29.out).mono ?_); (case side1 => repeat (first | exact (Kd.P_reads' HO439.out).2.2 | (with_reducible refine Kd.PC_alloc ?_ _) | (with_reducible refine Kd.PC_drewN ?_ _) | (with_reducible refine Kd.PC_drew ?_))); (case side2 => repeat (first | exact (Kd.P_reads' HO_7.out).2.2 | (with_reducible refine Kd.PC_alloc ?_ _) | (with_reducible refine Kd.PC_drewN ?_ _) | (with_reducible refine Kd.PC_drew ?_))); rintro e w' ⟨rfl, ⟨nd, rfl⟩⟩; (try first | exact ⟨rfl, _, World.drewN_drewN _ _ _⟩ | exact ⟨rfl, _, Eq.trans (World.drewN_drewN _ _ _) (congrArg (World.drewN _) (Nat.add_assoc _ _ _))⟩)) | (go_at_call 21; (with_reducible refine (trie_Trie_Blocks.calls _ t435 t442 _ ?side1 A31.out).mono ?_); (case side1 => repeat (first | exact (Kd.P_reads' HO439.out).2.2 | (with_reducible refine Kd.PC_alloc ?_ _) | (with_reducible refine Kd.PC_drewN ?_ _) | (with_reducible refine Kd.PC_drew ?_))); rintro e w' ⟨rfl, ⟨nd, rfl⟩⟩; (try first | exact ⟨rfl, _, World.drewN_drewN _ _ _⟩ | exact ⟨rfl, _, Eq.trans (World.drewN_drewN _ _ _) (congrArg (World.drewN _) (Nat.add_assoc _ _ _))⟩)) | (go_at_call 21; (with_reducible refine (trie_Trie_Blocks.calls _ t425 t443 _ ?side1 A32.out).mono ?_); (case side1 => repeat (first | exact (Kd.P_reads' HO_7.out).2.2 | (with_reducible refine Kd.PC_alloc ?_ _) | (with_reducible refine Kd.PC_drewN ?_ _) | (with_reducible refine Kd.PC_drew ?_))); rintro e w' ⟨rfl, ⟨nd, rfl⟩⟩; (try first | exact ⟨rfl, _, World.drewN_drewN _ _ _⟩ | exact ⟨rfl, _, Eq.trans (World.drewN_drewN _ _ _) (congrArg (World.drewN _) (Nat.add_assoc _ _ _))⟩)))
          repeat (go_quiet (first | (go_at_call 11; (with_reducible refine (endonymlaw4_told.calls kj5  true _ A25.out).mono ?_); rintro e w33 ⟨rfl, hb⟩; have n0_ := Aside0.mk (Kd.P_below (by (with_reducible repeat (first | apply Kd.P_alloc | apply Kd.P_drewN | apply Kd.P_drew)); first | exact HO_7.out | exact Kd.P_mono HO_7.out (fun _ hk => ⟨trivial, (by first | exact hk.2 | exact fun e_ => hk.2 (e_.trans (own_len _ _ _ _ _)))⟩)) hb); have n1_ := Aside0.mk (Kd.R_below (by (with_reducible repeat (first | apply Kd.R_alloc | apply Kd.R_drewN | apply Kd.R_drew)); exact HO433.out) hb); have n2_ := Aside0.mk (Kd.P_below (by (with_reducible repeat (first | apply Kd.P_alloc | apply Kd.P_drewN | apply Kd.P_drew)); first | exact HO439.out | exact Kd.P_mono HO439.out (fun _ hk => ⟨trivial, (by first | exact hk.2 | exact fun e_ => hk.2 (e_.trans (own_len _ _ _ _ _)))⟩)) hb); have n3_ := Aside0.mk (below_step (by repeat (first | (with_reducible first | exact HB.out | apply below_alloc | apply pw_below_drewN | apply below_drew1) | exact HB.out)) hb); clear HO_7; clear HO433; clear HO439; clear HB; have HO_7 := n0_; have HO433 := n1_; have HO439 := n2_; have HB := n3_; clear n0_ n1_ n2_ n3_; (try clear hb); (try clear hb2); (try clear hk); (try clear hi); obtain ⟨Ao34, co34, eo34⟩ := Kd.P_slice HO439.out; subst eo34; have hz35 := Kd.PC_isNone ((Kd.P_reads' HO439.out).2.2)) | (go_at_call 17; (with_reducible refine (trie_Trie_Same.calls kj5 _ t435 _ t425 true _ ?side1 ?side2 A29.out).mono ?_); (case side1 => repeat (first | exact (Kd.P_reads' HO439.out).2.2 | (with_reducible refine Kd.PC_alloc ?_ _) | (with_reducible refine Kd.PC_drewN ?_ _) | (with_reducible refine Kd.PC_drew ?_))); (case side2 => repeat (first | exact (Kd.P_reads' HO_7.out).2.2 | (with_reducible refine Kd.PC_alloc ?_ _) | (with_reducible refine Kd.PC_drewN ?_ _) | (with_reducible refine Kd.PC_drew ?_))); rintro e w' ⟨rfl, ⟨nd, rfl⟩⟩; (try first | exact ⟨rfl, _, World.drewN_drewN _ _ _⟩ | exact ⟨rfl, _, Eq.trans (World.drewN_drewN _ _ _) (congrArg (World.drewN _) (Nat.add_assoc _ _ _))⟩)) | (go_at_call 21; (with_reducible refine (trie_Trie_Blocks.calls _ t435 t442 _ ?side1 A31.out).mono ?_); (case side1 => repeat (first | exact (Kd.P_reads' HO439.out).2.2 | (with_reducible refine Kd.PC_alloc ?_ _) | (with_reducible refine Kd.PC_drewN ?_ _) | (with_reducible refine Kd.PC_drew ?_))); rintro e w' ⟨rfl, ⟨nd, rfl⟩⟩; (try first | exact ⟨rfl, _, World.drewN_drewN _ _ _⟩ | exact ⟨rfl, _, Eq.trans (World.drewN_drewN _ _ _) (congrArg (World.drewN _) (Nat.add_assoc _ _ _))⟩)) | (go_at_call 21; (with_reducible refine (trie_Trie_Blocks.calls _ t425 t443 _ ?side1 A32.out).mono ?_); (case side1 => repeat (first | exact (Kd.P_reads' HO_7.out).2.2 | (with_reducible refine Kd.PC_alloc ?_ _) | (with_reducible refine Kd.PC_drewN ?_ _) | (with_reducible refine Kd.PC_drew ?_))); rintro e w' ⟨rfl, ⟨nd, rfl⟩⟩; (try first | exact ⟨rfl, _, World.drewN_drewN _ _ _⟩ | exact ⟨rfl, _, Eq.trans (World.drewN_drewN _ _ _) (congrArg (World.drewN _) (Nat.add_assoc _ _ _))⟩))); try go_wp2_with (first | (go_at_call 11; (with_reducible refine (endonymlaw4_told.calls kj5  true _ A25.out).mono ?_); rintro e w33 ⟨rfl, hb⟩; have n0_ := Aside0.mk (Kd.P_below (by (with_reducible repeat (first | apply Kd.P_alloc | apply Kd.P_drewN | apply Kd.P_drew)); first | exact HO_7.out | exact Kd.P_mono HO_7.out (fun _ hk => ⟨trivial, (by first | exact hk.2 | exact fun e_ => hk.2 (e_.trans (own_len _ _ _ _ _)))⟩)) hb); have n1_ := Aside0.mk (Kd.R_below (by (with_reducible repeat (first | apply Kd.R_alloc | apply Kd.R_drewN | apply Kd.R_drew)); exact HO433.out) hb); have n2_ := Aside0.mk (Kd.P_below (by (with_reducible repeat (first | apply Kd.P_alloc | apply Kd.P_drewN | apply Kd.P_drew)); first | exact HO439.out | exact Kd.P_mono HO439.out (fun _ hk => ⟨trivial, (by first | exact hk.2 | exact fun e_ => hk.2 (e_.trans (own_len _ _ _ _ _)))⟩)) hb); have n3_ := Aside0.mk (below_step (by repeat (first | (with_reducible first | exact HB.out | apply below_alloc | apply pw_below_drewN | apply below_drew1) | exact HB.out)) hb); clear HO_7; clear HO433; clear HO439; clear HB; have HO_7 := n0_; have HO433 := n1_; have HO439 := n2_; have HB := n3_; clear n0_ n1_ n2_ n3_; (try clear hb); (try clear hb2); (try clear hk); (try clear hi); obtain ⟨Ao34, co34, eo34⟩ := Kd.P_slice HO439.out; subst eo34; have hz35 := Kd.PC_isNone ((Kd.P_reads' HO439.out).2.2)) | (go_at_call 17; (with_reducible refine (trie_Trie_Same.calls kj5 _ t435 _ t425 true _ ?side1 ?side2 A29.out).mono ?_); (case side1 => repeat (first | exact (Kd.P_reads' HO439.out).2.2 | (with_reducible refine Kd.PC_alloc ?_ _) | (with_reducible refine Kd.PC_drewN ?_ _) | (with_reducible refine Kd.PC_drew ?_))); (case side2 => repeat (first | exact (Kd.P_reads' HO_7.out).2.2 | (with_reducible refine Kd.PC_alloc ?_ _) | (with_reducible refine Kd.PC_drewN ?_ _) | (with_reducible refine Kd.PC_drew ?_))); rintro e w' ⟨rfl, ⟨nd, rfl⟩⟩; (try first | exact ⟨rfl, _, World.drewN_drewN _ _ _⟩ | exact ⟨rfl, _, Eq.trans (World.drewN_drewN _ _ _) (congrArg (World.drewN _) (Nat.add_assoc _ _ _))⟩)) | (go_at_call 21; (with_reducible refine (trie_Trie_Blocks.calls _ t435 t442 _ ?side1 A31.out).mono ?_); (case side1 => repeat (first | exact (Kd.P_reads' HO439.out).2.2 | (with_reducible refine Kd.PC_alloc ?_ _) | (with_reducible refine Kd.PC_drewN ?_ _) | (with_reducible refine Kd.PC_drew ?_))); rintro e w' ⟨rfl, ⟨nd, rfl⟩⟩; (try first | exact ⟨rfl, _, World.drewN_drewN _ _ _⟩ | exact ⟨rfl, _, Eq.trans (World.drewN_drewN _ _ _) (congrArg (World.drewN _) (Nat.add_assoc _ _ _))⟩)) | (go_at_call 21; (with_reducible refine (trie_Trie_Blocks.calls _ t425 t443 _ ?side1 A32.out).mono ?_); (case side1 => repeat (first | exact (Kd.P_reads' HO_7.out).2.2 | (with_reducible refine Kd.PC_alloc ?_ _) | (with_reducible refine Kd.PC_drewN ?_ _) | (with_reducible refine Kd.PC_drew ?_))); rintro e w' ⟨rfl, ⟨nd, rfl⟩⟩; (try first | exact ⟨rfl, _, World.drewN_drewN _ _ _⟩ | exact ⟨rfl, _, Eq.trans (World.drewN_drewN _ _ _) (congrArg (World.drewN _) (Nat.add_assoc _ _ _))⟩))))
          go_meet
          case rel => exact ⟨_, ((t442 != t443)), (by first | rfl | (simp; done) | (simp [*]; done)), H', ⟨by have := HJ5.out; first | omega | exact Nat.le_refl _⟩, ⟨by (with_reducible repeat (first | apply Kd.P_alloc | apply Kd.P_drewN | apply Kd.P_drew)); first | exact Kd.P_mono HO_7.out (fun _ hk => hk.2) | exact Kd.P_mono HO_7.out (fun _ hk => (by first | exact hk.2 | exact fun e_ => hk.2 (e_.trans (own_len _ _ _ _ _))))⟩, ⟨by (with_reducible repeat (first | apply Kd.P_alloc | apply Kd.P_drewN | apply Kd.P_drew)); first | exact Kd.P_mono HO439.out (fun _ hk => hk.2) | exact Kd.P_mono HO439.out (fun _ hk => (by first | exact hk.2 | exact fun e_ => hk.2 (e_.trans (own_len _ _ _ _ _))))⟩, ⟨by repeat (first | (with_reducible first | exact HB.out | apply below_alloc | apply pw_below_drewN | apply below_drew1) | exact HB.out)⟩⟩
        ·replace c30 := Bool.eq_false_iff.mpr c30
         subst c30
         have H1 : (endonymlaw4_TrieAgain.j1 kj5 l2 t425 t435 true) = some true := by rw [if_neg (show ¬ (false = true) by decide)] at H; exact H
         clear H
         have H := H1
         clear H1
         exact (endonymlaw4_TrieAgain.j1_no H).elim
      ·rw [if_neg c27] at H
       have c27b0 : (t437 == 0) = false := beq_eq_false_iff_ne.mpr c27
       have c27b1 : (t437 != 0) = true := bne_iff_ne.mpr c27
       (first | rw [c27b0] | (simp only [i64_w, i32_w]; rw [c27b0]) | skip)
       exact (endonymlaw4_TrieAgain.j1_no H).elim
     ·replace c26 := Bool.eq_false_iff.mpr c26
      subst c26
      have H1 : (endonymlaw4_TrieAgain.j1 kj5 l2 t425 t435 true) = some true := by rw [if_neg (show ¬ (false = true) by decide)] at H; exact H
      clear H
      have H := H1
      clear H1
      exact (endonymlaw4_TrieAgain.j1_no H).elim
    case rest =>
     clear HC20
     (try clear c1); (try clear c2); (try clear p2); (try clear c3); (try clear c7); (try clear c10); (try clear c10b0); (try clear c10b1); (try clear c13); (try clear c15); (try clear c26); (try clear c27); (try clear c27b0); (try clear c27b1); (try clear c28); (try clear c28b0); (try clear c30); (try clear p2)
     obtain ⟨kq, x81_19, rfl, HA, HJ19, HO_7, HO_10, HB⟩ := hcut
     cases kq with
     | zero => exact absurd HA.out (by simp [endonymlaw4_TrieAgain.j1])
     | succ kj19 =>
      have H := HA.out
      clear HA
      simp only [endonymlaw4_TrieAgain.j1] at H
      by_cases c36 : x81_19 = true
      ·subst c36
       have H1 : (some false) = some true := by rw [if_pos rfl] at H; exact H
       clear H
       have H := H1
       clear H1
       exact absurd H (by simp)
      ·replace c36 := Bool.eq_false_iff.mpr c36
       subst c36
       have H1 : ((trie_Trie_Index.f t425).bind fun t444 => ((trie_Trie_Index.f t435).bind fun t447 => (if (t444.length : Int) = 17408 then (endonymlaw4_TrieAgain.j2 kj19 l2 t425 t444 t447 ((t447.length : Int) != 17408)) else (endonymlaw4_TrieAgain.j2 kj19 l2 t425 t444 t447 true)))) = some true := by rw [if_neg (show ¬ (false = true) by decide)] at H; exact H
       clear H
       have H := H1
       clear H1
       replace H := Option.bind_eq_some_iff.mp H
       obtain ⟨t444, A370, H⟩ := H
       replace H : ((trie_Trie_Index.f t435).bind fun t447 => (if (t444.length : Int) = 17408 then (endonymlaw4_TrieAgain.j2 kj19 l2 t425 t444 t447 ((t447.length : Int) != 17408)) else (endonymlaw4_TrieAgain.j2 kj19 l2 t425 t444 t447 true))) = some true := H
       have A37 := Aside0.mk A370
       clear A370
       replace H := Option.bind_eq_some_iff.mp H
       obtain ⟨t447, A380, H⟩ := H
       replace H : (if (t444.length : Int) = 17408 then (endonymlaw4_TrieAgain.j2 kj19 l2 t425 t444 t447 ((t447.length : Int) != 17408)) else (endonymlaw4_TrieAgain.j2 kj19 l2 t425 t444 t447 true)) = some true := H
       have A38 := Aside0.mk A380
       clear A380
       have HC39 := Aside0.mk H
       clear H
       go_upto_region 9 with (first | (go_at_call 19; (with_reducible refine (trie_Trie_Index.calls _ t425 t444 _ ?side1 A37.out).mono ?_); (case side1 => repeat (first | exact (Kd.P_reads' HO_7.out).2.2 | (with_reducible refine Kd.PC_alloc ?_ _) | (with_reducible refine Kd.PC_drewN ?_ _) | (with_reducible refine Kd.PC_drew ?_))); rintro e w40 ⟨v445, rfl, ho0, hb⟩; have n0_ := Aside0.mk (Kd.P_elder' (by (with_reducible repeat (first | apply Kd.P_alloc | apply Kd.P_drewN | apply Kd.P_drew)); first | exact HO_7.out | exact Kd.P_mono HO_7.out (fun _ hk => (by first | exact hk | exact fun e_ => hk (e_.trans (own_len _ _ _ _ _))))) (Kd.R_base ho0) hb); have n1_ := Aside0.mk (Kd.P_elder' (by (with_reducible repeat (first | apply Kd.P_alloc | apply Kd.P_drewN | apply Kd.P_drew)); first | exact HO_10.out | exact Kd.P_mono HO_10.out (fun _ hk => (by first | exact hk | exact fun e_ => hk (e_.trans (own_len _ _ _ _ _))))) (Kd.R_base ho0) hb); have n2_ := Aside0.mk (Kd.R_lower ho0 (below_size (by repeat (first | (with_reducible first | exact HB.out | apply below_alloc | apply pw_below_drewN | apply below_drew1) | exact HB.out)))); have n3_ := Aside0.mk (below_step (by repeat (first | (with_reducible first | exact HB.out | apply below_alloc | apply pw_below_drewN | apply below_drew1) | exact HB.out)) hb); clear HO_7; clear HO_10; clear HB; have HO_7 := n0_; have HO_10 := n1_; have HO446 := n2_; have HB := n3_; clear n0_ n1_ n2_ n3_; (try clear hb); (try clear hb2); (try clear hk); (try clear hi); (try clear ho0); obtain ⟨Ao41, co41, eo41⟩ := Kd.P_slice HO_10.out; subst eo41) | (go_at_call 19; (with_reducible refine (trie_Trie_Index.calls _ t435 t447 _ ?side1 A38.out).mono ?_); (case side1 => repeat (first | exact (Kd.P_reads' HO_10.out).2.2 | (with_reducible refine Kd.PC_alloc ?_ _) | (with_reducible refine Kd.PC_drewN ?_ _) | (with_reducible refine Kd.PC_drew ?_))); rintro e w42 ⟨v448, rfl, ho0, hb⟩; have n0_ := Aside0.mk (Kd.P_elder' (by (with_reducible repeat (first | apply Kd.P_alloc | apply Kd.P_drewN | apply Kd.P_drew)); first | exact HO_7.out | exact Kd.P_mono HO_7.out (fun _ hk => ⟨(by first | exact hk.1 | exact fun e_ => hk.1 (e_.trans (own_len _ _ _ _ _))), (by first | exact hk.2 | exact fun e_ => hk.2 (e_.trans (own_len _ _ _ _ _)))⟩)) (Kd.R_base ho0) hb); have n1_ := Aside0.mk (Kd.P_elder' (by (with_reducible repeat (first | apply Kd.P_alloc | apply Kd.P_drewN | apply Kd.P_drew)); first | exact HO_10.out | exact Kd.P_mono HO_10.out (fun _ hk => ⟨(by first | exact hk.1 | exact fun e_ => hk.1 (e_.trans (own_len _ _ _ _ _))), (by first | exact hk.2 | exact fun e_ => hk.2 (e_.trans (own_len _ _ _ _ _)))⟩)) (Kd.R_base ho0) hb); have n2_ := Aside0.mk (Kd.R_elder' (by (with_reducible repeat (first | apply Kd.R_alloc | apply Kd.R_drewN | apply Kd.R_drew)); exact HO446.out) (Kd.R_base ho0) hb); have n3_ := Aside0.mk (Kd.R_lower (Kd.R_new' ho0 (Kd.R_lt (by (with_reducible repeat (first | apply Kd.R_alloc | apply Kd.R_drewN | apply Kd.R_drew)); exact HO446.out))) (below_size (by repeat (first | (with_reducible first | exact HB.out | apply below_alloc | apply pw_below_drewN | apply below_drew1) | exact HB.out)))); have n4_ := Aside0.mk (below_step (by repeat (first | (with_reducible first | exact HB.out | apply below_alloc | apply pw_below_drewN | apply below_drew1) | exact HB.out)) hb); clear HO_7; clear HO_10; clear HO446; clear HB; have HO_7 := n0_; have HO_10 := n1_; have HO446 := n2_; have HO449 := n3_; have HB := n4_; clear n0_ n1_ n2_ n3_ n4_; (try clear hb); (try clear hb2); (try clear hk); (try clear hi); (try clear ho0)))
       repeat (go_quiet (first | (go_at_call 19; (with_reducible refine (trie_Trie_Index.calls _ t425 t444 _ ?side1 A37.out).mono ?_); (case side1 => repeat (first | exact (Kd.P_reads' HO_7.out).2.2 | (with_reducible refine Kd.PC_alloc ?_ _) | (with_reducible refine Kd.PC_drewN ?_ _) | (with_reducible refine Kd.PC_drew ?_))); rintro e w40 ⟨v445, rfl, ho0, hb⟩; have n0_ := Aside0.mk (Kd.P_elder' (by (with_reducible repeat (first | apply Kd.P_alloc | apply Kd.P_drewN | apply Kd.P_drew)); first | exact HO_7.out | exact Kd.P_mono HO_7.out (fun _ hk => (by first | exact hk | exact fun e_ => hk (e_.trans (own_len _ _ _ _ _))))) (Kd.R_base ho0) hb); have n1_ := Aside0.mk (Kd.P_elder' (by (with_reducible repeat (first | apply Kd.P_alloc | apply Kd.P_drewN | apply Kd.P_drew)); first | exact HO_10.out | exact Kd.P_mono HO_10.out (fun _ hk => (by first | exact hk | exact fun e_ => hk (e_.trans (own_len _ _ _ _ _))))) (Kd.R_base ho0) hb); have n2_ := Aside0.mk (Kd.R_lower ho0 (below_size (by repeat (first | (with_reducible first | exact HB.out | apply below_alloc | apply pw_below_drewN | apply below_drew1) | exact HB.out)))); have n3_ := Aside0.mk (below_step (by repeat (first | (with_reducible first | exact HB.out | apply below_alloc | apply pw_below_drewN | apply below_drew1) | exact HB.out)) hb); clear HO_7; clear HO_10; clear HB; have HO_7 := n0_; have HO_10 := n1_; have HO446 := n2_; have HB := n3_; clear n0_ n1_ n2_ n3_; (try clear hb); (try clear hb2); (try clear hk); (try clear hi); (try clear ho0); obtain ⟨Ao41, co41, eo41⟩ := Kd.P_slice HO_10.out; subst eo41) | (go_at_call 19; (with_reducible refine (trie_Trie_Index.calls _ t435 t447 _ ?side1 A38.out).mono ?_); (case side1 => repeat (first | exact (Kd.P_reads' HO_10.out).2.2 | (with_reducible refine Kd.PC_alloc ?_ _) | (with_reducible refine Kd.PC_drewN ?_ _) | (with_reducible refine Kd.PC_drew ?_))); rintro e w42 ⟨v448, rfl, ho0, hb⟩; have n0_ := Aside0.mk (Kd.P_elder' (by (with_reducible repeat (first | apply Kd.P_alloc | apply Kd.P_drewN | apply Kd.P_drew)); first | exact HO_7.out | exact Kd.P_mono HO_7.out (fun _ hk => ⟨(by first | exact hk.1 | exact fun e_ => hk.1 (e_.trans (own_len _ _ _ _ _))), (by first | exact hk.2 | exact fun e_ => hk.2 (e_.trans (own_len _ _ _ _ _)))⟩)) (Kd.R_base ho0) hb); have n1_ := Aside0.mk (Kd.P_elder' (by (with_reducible repeat (first | apply Kd.P_alloc | apply Kd.P_drewN | apply Kd.P_drew)); first | exact HO_10.out | exact Kd.P_mono HO_10.out (fun _ hk => ⟨(by first | exact hk.1 | exact fun e_ => hk.1 (e_.trans (own_len _ _ _ _ _))), (by first | exact hk.2 | exact fun e_ => hk.2 (e_.trans (own_len _ _ _ _ _)))⟩)) (Kd.R_base ho0) hb); have n2_ := Aside0.mk (Kd.R_elder' (by (with_reducible repeat (first | apply Kd.R_alloc | apply Kd.R_drewN | apply Kd.R_drew)); exact HO446.out) (Kd.R_base ho0) hb); have n3_ := Aside0.mk (Kd.R_lower (Kd.R_new' ho0 (Kd.R_lt (by (with_reducible repeat (first | apply Kd.R_alloc | apply Kd.R_drewN | apply Kd.R_drew)); exact HO446.out))) (below_size (by repeat (first | (with_reducible first | exact HB.out | apply below_alloc | apply pw_below_drewN | apply below_drew1) | exact HB.out)))); have n4_ := Aside0.mk (below_step (by repeat (first | (with_reducible first | exact HB.out | apply below_alloc | apply pw_below_drewN | apply below_drew1) | exact HB.out)) hb); clear HO_7; clear HO_10; clear HO446; clear HB; have HO_7 := n0_; have HO_10 := n1_; have HO446 := n2_; have HO449 := n3_; have HB := n4_; clear n0_ n1_ n2_ n3_ n4_; (try clear hb); (try clear hb2); (try clear hk); (try clear hi); (try clear ho0))); go_upto_region 9 with (first | (go_at_call 19; (with_reducible refine (trie_Trie_Index.calls _ t425 t444 _ ?side1 A37.out).mono ?_); (case side1 => repeat (first | exact (Kd.P_reads' HO_7.out).2.2 | (with_reducible refine Kd.PC_alloc ?_ _) | (with_reducible refine Kd.PC_drewN ?_ _) | (with_reducible refine Kd.PC_drew ?_))); rintro e w40 ⟨v445, rfl, ho0, hb⟩; have n0_ := Aside0.mk (Kd.P_elder' (by (with_reducible repeat (first | apply Kd.P_alloc | apply Kd.P_drewN | apply Kd.P_drew)); first | exact HO_7.out | exact Kd.P_mono HO_7.out (fun _ hk => (by first | exact hk | exact fun e_ => hk (e_.trans (own_len _ _ _ _ _))))) (Kd.R_base ho0) hb); have n1_ := Aside0.mk (Kd.P_elder' (by (with_reducible repeat (first | apply Kd.P_alloc | apply Kd.P_drewN | apply Kd.P_drew)); first | exact HO_10.out | exact Kd.P_mono HO_10.out (fun _ hk => (by first | exact hk | exact fun e_ => hk (e_.trans (own_len _ _ _ _ _))))) (Kd.R_base ho0) hb); have n2_ := Aside0.mk (Kd.R_lower ho0 (below_size (by repeat (first | (with_reducible first | exact HB.out | apply below_alloc | apply pw_below_drewN | apply below_drew1) | exact HB.out)))); have n3_ := Aside0.mk (below_step (by repeat (first | (with_reducible first | exact HB.out | apply below_alloc | apply pw_below_drewN | apply below_drew1) | exact HB.out)) hb); clear HO_7; clear HO_10; clear HB; have HO_7 := n0_; have HO_10 := n1_; have HO446 := n2_; have HB := n3_; clear n0_ n1_ n2_ n3_; (try clear hb); (try clear hb2); (try clear hk); (try clear hi); (try clear ho0); obtain ⟨Ao41, co41, eo41⟩ := Kd.P_slice HO_10.out; subst eo41) | (go_at_call 19; (with_reducible refine (trie_Trie_Index.calls _ t435 t447 _ ?side1 A38.out).mono ?_); (case side1 => repeat (first | exact (Kd.P_reads' HO_10.out).2.2 | (with_reducible refine Kd.PC_alloc ?_ _) | (with_reducible refine Kd.PC_drewN ?_ _) | (with_reducible refine Kd.PC_drew ?_))); rintro e w42 ⟨v448, rfl, ho0, hb⟩; have n0_ := Aside0.mk (Kd.P_elder' (by (with_reducible repeat (first | apply Kd.P_alloc | apply Kd.P_drewN | apply Kd.P_drew)); first | exact HO_7.out | exact Kd.P_mono HO_7.out (fun _ hk => ⟨(by first | exact hk.1 | exact fun e_ => hk.1 (e_.trans (own_len _ _ _ _ _))), (by first | exact hk.2 | exact fun e_ => hk.2 (e_.trans (own_len _ _ _ _ _)))⟩)) (Kd.R_base ho0) hb); have n1_ := Aside0.mk (Kd.P_elder' (by (with_reducible repeat (first | apply Kd.P_alloc | apply Kd.P_drewN | apply Kd.P_drew)); first | exact HO_10.out | exact Kd.P_mono HO_10.out (fun _ hk => ⟨(by first | exact hk.1 | exact fun e_ => hk.1 (e_.trans (own_len _ _ _ _ _))), (by first | exact hk.2 | exact fun e_ => hk.2 (e_.trans (own_len _ _ _ _ _)))⟩)) (Kd.R_base ho0) hb); have n2_ := Aside0.mk (Kd.R_elder' (by (with_reducible repeat (first | apply Kd.R_alloc | apply Kd.R_drewN | apply Kd.R_drew)); exact HO446.out) (Kd.R_base ho0) hb); have n3_ := Aside0.mk (Kd.R_lower (Kd.R_new' ho0 (Kd.R_lt (by (with_reducible repeat (first | apply Kd.R_alloc | apply Kd.R_drewN | apply Kd.R_drew)); exact HO446.out))) (below_size (by repeat (first | (with_reducible first | exact HB.out | apply below_alloc | apply pw_below_drewN | apply below_drew1) | exact HB.out)))); have n4_ := Aside0.mk (below_step (by repeat (first | (with_reducible first | exact HB.out | apply below_alloc | apply pw_below_drewN | apply below_drew1) | exact HB.out)) hb); clear HO_7; clear HO_10; clear HO446; clear HB; have HO_7 := n0_; have HO_10 := n1_; have HO446 := n2_; have HO449 := n3_; have HB := n4_; clear n0_ n1_ n2_ n3_ n4_; (try clear hb); (try clear hb2); (try clear hk); (try clear hi); (try clear ho0))))
       (try simp only [Act.put, List.setIfInBounds_toArray, List.set_cons_zero, List.set_cons_succ])
       go_cut [93] (fun v93 wc => ∃ (kq : Nat) (x93_38 : Bool), v93 = .bool x93_38 ∧ Aside0 (endonymlaw4_TrieAgain.j2 kq l2 t425 t444 t447 x93_38 = some true) ∧ Aside0 (kq ≤ kj19) ∧ Aside0 (Kd.P k57 57 wc w.heap.size (fun k_ => some k_ ≠ (v445 : Value).ownBlock ∧ some k_ ≠ (v448 : Value).ownBlock) (.pointer Ao21) t425) ∧ Aside0 (Kd.R (Kd.int .u16) 49 wc w.heap.size (fun k_ => some k_ ≠ (v448 : Value).ownBlock) v445 t444) ∧ Aside0 (Kd.R (Kd.int .u16) 49 wc w.heap.size (fun k_ => some k_ ≠ (v445 : Value).ownBlock) v448 t447) ∧ Aside0 (Below w.heap.size w wc))
       case first =>
        have H := HC39.out
        clear HC39
        by_cases c43 : (t444.length : Int) = 17408
        ·rw [if_pos c43] at H
         have c43b0 : ((t444.length : Int) == 17408) = true := beq_iff_eq.mpr c43
         have c43b1 : ((t444.length : Int) != 17408) = false := bne_eq_false_iff_eq.mpr c43
         clear c43
         (first | rw [c43b0] | (simp only [i64_w, i32_w]; rw [c43b0]) | skip)
         as_aux_lemma =>
          have H' := Aside0.mk H
          clear H
          obtain ⟨Ao44, co44, eo44⟩ := Kd.R_slice HO446.out
          subst eo44
          obtain ⟨Ao45, co45, eo45⟩ := Kd.R_slice HO449.out
          subst eo45
          go_wp2
          repeat (go_quiet (fail); try go_wp2)
          go_meet
          case rel => exact ⟨_, (((t447.length : Int) != 17408)), (by first | rfl | (simp; done) | (simp [*]; done)), H', ⟨by have := HJ5.out; have := HJ19.out; first | omega | exact Nat.le_refl _⟩, ⟨by (with_reducible repeat (first | apply Kd.P_alloc | apply Kd.P_drewN | apply Kd.P_drew)); first | exact Kd.P_mono HO_7.out (fun _ hk => ⟨hk.1.2, hk.2⟩) | exact Kd.P_mono HO_7.out (fun _ hk => ⟨(by first | exact hk.1.2 | exact fun e_ => hk.1.2 (e_.trans (own_len _ _ _ _ _))), (by first | exact hk.2 | exact fun e_ => hk.2 (e_.trans (own_len _ _ _ _ _)))⟩)⟩, ⟨by (with_reducible repeat (first | apply Kd.R_alloc | apply Kd.R_drewN | apply Kd.R_drew)); first | exact Kd.R_mono HO446.out (fun _ hk => hk.2) | exact Kd.R_mono HO446.out (fun _ hk => (by first | exact hk.2 | exact fun e_ => hk.2 (e_.trans (own_len _ _ _ _ _))))⟩, ⟨by (with_reducible repeat (first | apply Kd.R_alloc | apply Kd.R_drewN | apply Kd.R_drew)); first | exact Kd.R_mono HO449.out (fun _ hk => hk.2) | exact Kd.R_mono HO449.out (fun _ hk => (by first | exact hk.2 | exact fun e_ => hk.2 (e_.trans (own_len _ _ _ _ _))))⟩, ⟨by repeat (first | (with_reducible first | exact HB.out | apply below_alloc | apply pw_below_drewN | apply below_drew1) | exact HB.out)⟩⟩
        ·rw [if_neg c43] at H
         have c43b0 : ((t444.length : Int) == 17408) = false := beq_eq_false_iff_ne.mpr c43
         have c43b1 : ((t444.length : Int) != 17408) = true := bne_iff_ne.mpr c43
         (first | rw [c43b0] | (simp only [i64_w, i32_w]; rw [c43b0]) | skip)
         exact (endonymlaw4_TrieAgain.j2_no H).elim
       case rest =>
        clear HC39
        (try clear c1); (try clear c2); (try clear p2); (try clear c3); (try clear c4); (try clear c7); (try clear c10); (try clear c10b0); (try clear c10b1); (try clear c13); (try clear c15); (try clear c26); (try clear c27); (try clear c27b0); (try clear c27b1); (try clear c28); (try clear c28b0); (try clear c30); (try clear c36); (try clear c43); (try clear c43b0); (try clear c43b1); (try clear p2)
        obtain ⟨kq, x93_38, rfl, HA, HJ38, HO_7, HO_13, HO_14, HB⟩ := hcut
        cases kq with
        | zero => exact absurd HA.out (by simp [endonymlaw4_TrieAgain.j2])
        | succ kj38 =>
         have H := HA.out
         clear HA
         simp only [endonymlaw4_TrieAgain.j2] at H
         by_cases c46 : x93_38 = true
         ·subst c46
          have H1 : (some false) = some true := by rw [if_pos rfl] at H; exact H
          clear H
          have H := H1
          clear H1
          exact absurd H (by simp)
         ·replace c46 := Bool.eq_false_iff.mpr c46
          subst c46
          have H1 : (endonymlaw4_TrieAgain.l0 kj38 l2 t425 t444 t447 0 0) = some true := by rw [if_neg (show ¬ (false = true) by decide)] at H; exact H
          clear H
          have H := H1
          clear H1
          have H' := Aside0.mk H
          clear H
          go_wp2
          repeat (go_quiet (fail); try go_wp2)
          go_loopg [15, 16] kj38 (fun kq v15 v16 w' => ∃ (x15_4 : Int) (x16_4 : Int), v15 = .int .i64 x15_4 ∧ v16 = .int .i64 x16_4 ∧ Aside0 (endonymlaw4_TrieAgain.l0 kq l2 t425 t444 t447 x15_4 x16_4 = some true) ∧ Aside0 (kq ≤ kj38) ∧ Aside0 (Kd.P k57 57 w' w.heap.size (fun k_ => some k_ ≠ (v445 : Value).ownBlock ∧ some k_ ≠ (v448 : Value).ownBlock) (.pointer Ao21) t425) ∧ Aside0 (Kd.R (Kd.int .u16) 49 w' w.heap.size (fun k_ => some k_ ≠ (v448 : Value).ownBlock) v445 t444) ∧ Aside0 (Kd.R (Kd.int .u16) 49 w' w.heap.size (fun k_ => some k_ ≠ (v445 : Value).ownBlock) v448 t447) ∧ Aside0 (Below w.heap.size w w'))
          case atStart => exact ⟨(0), (0), (by first | rfl | (simp; done) | (simp [*]; done)), (by first | rfl | (simp; done) | (simp [*]; done)), H', ⟨Nat.le_refl _⟩, ⟨by (with_reducible repeat (first | apply Kd.P_alloc | apply Kd.P_drewN | apply Kd.P_drew)); first | exact HO_7.out | exact Kd.P_mono HO_7.out (fun _ hk => ⟨(by first | exact hk.1 | exact fun e_ => hk.1 (e_.trans (own_len _ _ _ _ _))), (by first | exact hk.2 | exact fun e_ => hk.2 (e_.trans (own_len _ _ _ _ _)))⟩)⟩, ⟨by (with_reducible repeat (first | apply Kd.R_alloc | apply Kd.R_drewN | apply Kd.R_drew)); first | exact HO_13.out | exact Kd.R_mono HO_13.out (fun _ hk => (by first | exact hk | exact fun e_ => hk (e_.trans (own_len _ _ _ _ _))))⟩, ⟨by (with_reducible repeat (first | apply Kd.R_alloc | apply Kd.R_drewN | apply Kd.R_drew)); first | exact HO_14.out | exact Kd.R_mono HO_14.out (fun _ hk => (by first | exact hk | exact fun e_ => hk (e_.trans (own_len _ _ _ _ _))))⟩, ⟨by repeat (first | (with_reducible first | exact HB.out | apply below_alloc | apply pw_below_drewN | apply below_drew1) | exact HB.out)⟩⟩
          case round =>
           clear H'
           (try clear c1); (try clear c2); (try clear p2); (try clear c3); (try clear c4); (try clear c7); (try clear c10); (try clear c10b0); (try clear c10b1); (try clear c13); (try clear c15); (try clear c26); (try clear c27); (try clear c27b0); (try clear c27b1); (try clear c28); (try clear c28b0); (try clear c30); (try clear c36); (try clear c43); (try clear c43b0); (try clear c43b1); (try clear c46); (try clear p2)
           obtain ⟨x15_4, x16_4, rfl, rfl, HA, HK4, HO_7, HO_13, HO_14, HB⟩ := hrel
           cases gk with
           | zero => exact absurd HA.out (by simp [endonymlaw4_TrieAgain.l0])
           | succ k4 =>
            have H := HA.out
            clear HA
            simp only [endonymlaw4_TrieAgain.l0] at H
            by_cases c47 : x16_4 < (t444.length : Int)
            ·rw [if_pos c47] at H
             have c47b0 : decide (x16_4 < (t444.length : Int)) = true := decide_eq_true c47
             clear c47
             have HC48 := Aside0.mk H
             clear H
             obtain ⟨Ao49, co49, eo49⟩ := Kd.R_slice HO_13.out
             subst eo49
             go_upto_region 15 with (fail)
             repeat (go_quiet (fail); go_upto_region 15 with (fail))
             go_cut [117] (fun v117 wc => ∃ (kq : Nat) (x117_47 : Bool), v117 = .bool x117_47 ∧ Aside0 (endonymlaw4_TrieAgain.j4 kq l2 t425 t444 t447 x15_4 x16_4 x117_47 = some true) ∧ Aside0 (kq ≤ k4) ∧ Aside0 (Kd.P k57 57 wc w.heap.size (fun k_ => some k_ ≠ ((.slice Ao49 t444.length co49) : Value).ownBlock ∧ some k_ ≠ (v448 : Value).ownBlock) (.pointer Ao21) t425) ∧ Aside0 (Kd.R (Kd.int .u16) 49 wc w.heap.size (fun k_ => some k_ ≠ (v448 : Value).ownBlock) (.slice Ao49 t444.length co49) t444) ∧ Aside0 (Kd.R (Kd.int .u16) 49 wc w.heap.size (fun k_ => some k_ ≠ ((.slice Ao49 t444.length co49) : Value).ownBlock) v448 t447) ∧ Aside0 (Below w.heap.size w wc))
             case first =>
              have H := HC48.out
              clear HC48
              by_cases c50 : 0 ≤ x16_4
              ·rw [if_pos c50] at H
               have c50b0 : decide (0 ≤ x16_4) = true := decide_eq_true c50
               clear c50
               (first | rw [c50b0] | (simp only [i64_w, i32_w]; rw [c50b0]) | skip)
               by_cases c51 : x16_4 < (t447.length : Int)
               ·rw [if_pos c51] at H
                have c51b0 : decide (x16_4 < (t447.length : Int)) = true := decide_eq_true c51
                clear c51
                by_cases c52 : (rd t444 x16_4) = (rd t447 x16_4)
                ·rw [if_pos c52] at H
                 have c52b0 : ((rd t444 x16_4) == (rd t447 x16_4)) = true := beq_iff_eq.mpr c52
                 have c52b1 : ((rd t444 x16_4) != (rd t447 x16_4)) = false := bne_eq_false_iff_eq.mpr c52
                 clear c52
                 as_aux_lemma =>
                  have H' := Aside0.mk H
                  clear H
                  have p450 : 0 ≤ (x16_4 : Int) := of_decide_eq_true (by first | (with_reducible assumption) | assumption)
                  have q450 : x16_4 < (t444.length : Int) := of_decide_eq_true (by first | (with_reducible assumption) | assumption)
                  obtain ⟨ad450, e450, hx450_0⟩ := Kd.at_int (Kd.R_reads' HO_13.out).2.2 x16_4 p450 q450
                  cases e450
                  replace p450 := eq_true p450
                  replace q450 := eq_true q450
                  obtain ⟨Ao53, co53, eo53⟩ := Kd.R_slice HO_14.out
                  subst eo53
                  have p451 : 0 ≤ (x16_4 : Int) := of_decide_eq_true (by first | (with_reducible assumption) | assumption)
                  have q451 : x16_4 < (t447.length : Int) := of_decide_eq_true (by first | (with_reducible assumption) | assumption)
                  obtain ⟨ad451, e451, hx451_0⟩ := Kd.at_int (Kd.R_reads' HO_14.out).2.2 x16_4 p451 q451
                  cases e451
                  replace p451 := eq_true p451
                  replace q451 := eq_true q451
                  have p452 : 0 ≤ (x16_4 : Int) := of_decide_eq_true (by first | (with_reducible assumption) | assumption)
                  have q452 : x16_4 < (t444.length : Int) := of_decide_eq_true (by first | (with_reducible assumption) | assumption)
                  obtain ⟨ad452, e452, hx452_0⟩ := Kd.at_int (Kd.R_reads' HO_13.out).2.2 x16_4 p452 q452
                  obtain rfl : ad450 = ad452 := (by injection e452)
                  replace p452 := eq_true p452
                  replace q452 := eq_true q452
                  go_wp2
                  repeat (go_quiet (fail); try go_wp2)
                  go_meet
                  case rel => exact ⟨_, (decide ((wrap64 (rd t444 x16_4)) > x15_4)), (by first | rfl | (simp; done) | (simp [*]; done)), H', ⟨by have := HJ5.out; have := HJ19.out; have := HJ38.out; have := HK4.out; first | omega | exact Nat.le_refl _⟩, ⟨by (with_reducible repeat (first | apply Kd.P_alloc | apply Kd.P_drewN | apply Kd.P_drew)); first | exact HO_7.out | exact Kd.P_mono HO_7.out (fun _ hk => ⟨(by first | exact hk.1 | exact fun e_ => hk.1 (e_.trans (own_len _ _ _ _ _))), (by first | exact hk.2 | exact fun e_ => hk.2 (e_.trans (own_len _ _ _ _ _)))⟩)⟩, ⟨by (with_reducible repeat (first | apply Kd.R_alloc | apply Kd.R_drewN | apply Kd.R_drew)); first | exact HO_13.out | exact Kd.R_mono HO_13.out (fun _ hk => (by first | exact hk | exact fun e_ => hk (e_.trans (own_len _ _ _ _ _))))⟩, ⟨by (with_reducible repeat (first | apply Kd.R_alloc | apply Kd.R_drewN | apply Kd.R_drew)); first | exact HO_14.out | exact Kd.R_mono HO_14.out (fun _ hk => (by first | exact hk | exact fun e_ => hk (e_.trans (own_len _ _ _ _ _))))⟩, ⟨by repeat (first | (with_reducible first | exact HB.out | apply below_alloc | apply pw_below_drewN | apply below_drew1) | exact HB.out)⟩⟩
                ·rw [if_neg c52] at H
                 have c52b0 : ((rd t444 x16_4) == (rd t447 x16_4)) = false := beq_eq_false_iff_ne.mpr c52
                 have c52b1 : ((rd t444 x16_4) != (rd t447 x16_4)) = true := bne_iff_ne.mpr c52
                 exact (endonymlaw4_TrieAgain.j4_no H).elim
               ·rw [if_neg c51] at H
                exact absurd H (by simp)
              ·rw [if_neg c50] at H
               exact absurd H (by simp)
             case rest =>
              clear HC48
              (try clear c1); (try clear c2); (try clear p2); (try clear c3); (try clear c4); (try clear p4); (try clear q4); (try clear hx4); (try clear c5); (try clear p6); (try clear c7); (try clear c10); (try clear c10b0); (try clear c10b1); (try clear c13); (try clear c15); (try clear c26); (try clear c27); (try clear c27b0); (try clear c27b1); (try clear c28); (try clear c28b0); (try clear c30); (try clear c36); (try clear c43); (try clear c43b0); (try clear c43b1); (try clear p45); (try clear q45); (try clear hx45); (try clear c46); (try clear c47); (try clear c47b0); (try clear c50); (try clear c50b0); (try clear c51); (try clear c51b0); (try clear c52); (try clear c52b0); (try clear c52b1); (try clear hx450_0); (try clear hx451_0); (try clear hx452_0); (try clear p2); (try clear p450); (try clear p451); (try clear p452); (try clear q450); (try clear q451); (try clear q452)
              obtain ⟨kq, x117_47, rfl, HA, HJ47, HO_7, HO_13, HO_14, HB⟩ := hcut
              cases kq with
              | zero => exact absurd HA.out (by simp [endonymlaw4_TrieAgain.j4])
              | succ kj47 =>
               have H := HA.out
               clear HA
               simp only [endonymlaw4_TrieAgain.j4] at H
               by_cases c54 : x117_47 = true
               ·subst c54
                have H1 : (some false) = some true := by rw [if_pos rfl] at H; exact H
                clear H
                have H := H1
                clear H1
                exact absurd H (by simp)
               ·replace c54 := Bool.eq_false_iff.mpr c54
                subst c54
                have H1 : (if 0 ≤ x16_4 then (if x16_4 < (t444.length : Int) then (if (wrap64 (rd t444 x16_4)) = x15_4 then (endonymlaw4_TrieAgain.l0 kj47 l2 t425 t444 t447 (wrap64 (x15_4 + 1)) (wrap64 (x16_4 + 1))) else (endonymlaw4_TrieAgain.l0 kj47 l2 t425 t444 t447 x15_4 (wrap64 (x16_4 + 1)))) else (none)) else (none)) = some true := by rw [if_neg (show ¬ (false = true) by decide)] at H; exact H
                clear H
                have H := H1
                clear H1
                by_cases c55 : 0 ≤ x16_4
                ·rw [if_pos c55] at H
                 have c55b0 : decide (0 ≤ x16_4) = true := decide_eq_true c55
                 clear c55
                 by_cases c56 : x16_4 < (t444.length : Int)
                 ·rw [if_pos c56] at H
                  have c56b0 : decide (x16_4 < (t444.length : Int)) = true := decide_eq_true c56
                  clear c56
                  by_cases c57 : (wrap64 (rd t444 x16_4)) = x15_4
                  ·rw [if_pos c57] at H
                   have c57b0 : ((wrap64 (rd t444 x16_4)) == x15_4) = true := beq_iff_eq.mpr c57
                   have c57b1 : ((wrap64 (rd t444 x16_4)) != x15_4) = false := bne_eq_false_iff_eq.mpr c57
                   clear c57
                   as_aux_lemma =>
                    have H' := Aside0.mk H
                    clear H
                    have p453 : 0 ≤ (x16_4 : Int) := of_decide_eq_true (by first | (with_reducible assumption) | assumption)
                    have q453 : x16_4 < (t444.length : Int) := of_decide_eq_true (by first | (with_reducible assumption) | assumption)
                    obtain ⟨ad453, e453, hx453_0⟩ := Kd.at_int (Kd.R_reads' HO_13.out).2.2 x16_4 p453 q453
                    cases e453
                    replace p453 := eq_true p453
                    replace q453 := eq_true q453
                    go_wp2
                    repeat (go_quiet (fail); try go_wp2)
                    go_roundg kj47
                    case measure => have := HJ5.out; have := HJ19.out; have := HJ38.out; have := HK4.out; have := HJ47.out; omega
                    case rel => exact ⟨(wrap64 (x15_4 + 1)), (wrap64 (x16_4 + 1)), (by first | rfl | (simp; done) | (simp [*]; done)), (by first | rfl | (simp; done) | (simp [*]; done)), H', ⟨by have := HJ5.out; have := HJ19.out; have := HJ38.out; have := HK4.out; have := HJ47.out; omega⟩, ⟨by (with_reducible repeat (first | apply Kd.P_alloc | apply Kd.P_drewN | apply Kd.P_drew)); first | exact HO_7.out | exact Kd.P_mono HO_7.out (fun _ hk => ⟨(by first | exact hk.1 | exact fun e_ => hk.1 (e_.trans (own_len _ _ _ _ _))), (by first | exact hk.2 | exact fun e_ => hk.2 (e_.trans (own_len _ _ _ _ _)))⟩)⟩, ⟨by (with_reducible repeat (first | apply Kd.R_alloc | apply Kd.R_drewN | apply Kd.R_drew)); first | exact HO_13.out | exact Kd.R_mono HO_13.out (fun _ hk => (by first | exact hk | exact fun e_ => hk (e_.trans (own_len _ _ _ _ _))))⟩, ⟨by (with_reducible repeat (first | apply Kd.R_alloc | apply Kd.R_drewN | apply Kd.R_drew)); first | exact HO_14.out | exact Kd.R_mono HO_14.out (fun _ hk => (by first | exact hk | exact fun e_ => hk (e_.trans (own_len _ _ _ _ _))))⟩, ⟨by repeat (first | (with_reducible first | exact HB.out | apply below_alloc | apply pw_below_drewN | apply below_drew1) | exact HB.out)⟩⟩
                  ·rw [if_neg c57] at H
                   have c57b0 : ((wrap64 (rd t444 x16_4)) == x15_4) = false := beq_eq_false_iff_ne.mpr c57
                   have c57b1 : ((wrap64 (rd t444 x16_4)) != x15_4) = true := bne_iff_ne.mpr c57
                   as_aux_lemma =>
                    have H' := Aside0.mk H
                    clear H
                    have p453 : 0 ≤ (x16_4 : Int) := of_decide_eq_true (by first | (with_reducible assumption) | assumption)
                    have q453 : x16_4 < (t444.length : Int) := of_decide_eq_true (by first | (with_reducible assumption) | assumption)
                    obtain ⟨ad453, e453, hx453_0⟩ := Kd.at_int (Kd.R_reads' HO_13.out).2.2 x16_4 p453 q453
                    cases e453
                    replace p453 := eq_true p453
                    replace q453 := eq_true q453
                    go_wp2
                    repeat (go_quiet (fail); try go_wp2)
                    go_roundg kj47
                    case measure => have := HJ5.out; have := HJ19.out; have := HJ38.out; have := HK4.out; have := HJ47.out; omega
                    case rel => exact ⟨(x15_4), (wrap64 (x16_4 + 1)), (by first | rfl | (simp; done) | (simp [*]; done)), (by first | rfl | (simp; done) | (simp [*]; done)), H', ⟨by have := HJ5.out; have := HJ19.out; have := HJ38.out; have := HK4.out; have := HJ47.out; omega⟩, ⟨by (with_reducible repeat (first | apply Kd.P_alloc | apply Kd.P_drewN | apply Kd.P_drew)); first | exact HO_7.out | exact Kd.P_mono HO_7.out (fun _ hk => ⟨(by first | exact hk.1 | exact fun e_ => hk.1 (e_.trans (own_len _ _ _ _ _))), (by first | exact hk.2 | exact fun e_ => hk.2 (e_.trans (own_len _ _ _ _ _)))⟩)⟩, ⟨by (with_reducible repeat (first | apply Kd.R_alloc | apply Kd.R_drewN | apply Kd.R_drew)); first | exact HO_13.out | exact Kd.R_mono HO_13.out (fun _ hk => (by first | exact hk | exact fun e_ => hk (e_.trans (own_len _ _ _ _ _))))⟩, ⟨by (with_reducible repeat (first | apply Kd.R_alloc | apply Kd.R_drewN | apply Kd.R_drew)); first | exact HO_14.out | exact Kd.R_mono HO_14.out (fun _ hk => (by first | exact hk | exact fun e_ => hk (e_.trans (own_len _ _ _ _ _))))⟩, ⟨by repeat (first | (with_reducible first | exact HB.out | apply below_alloc | apply pw_below_drewN | apply below_drew1) | exact HB.out)⟩⟩
                 ·rw [if_neg c56] at H
                  exact absurd H (by simp)
                ·rw [if_neg c55] at H
                 exact absurd H (by simp)
            ·rw [if_neg c47] at H
             have c47b0 : decide (x16_4 < (t444.length : Int)) = false := decide_eq_false c47
             clear c47
             replace H := Option.bind_eq_some_iff.mp H
             obtain ⟨t454, A580, H⟩ := H
             replace H : (if x15_4 = t454 then (endonymlaw4_TrieAgain.l1 k4 l2 t425 t444 x15_4 0) else (some false)) = some true := H
             have A58 := Aside0.mk A580
             clear A580
             by_cases c59 : x15_4 = t454
             ·rw [if_pos c59] at H
              have c59b0 : (x15_4 == t454) = true := beq_iff_eq.mpr c59
              have c59b1 : (x15_4 != t454) = false := bne_eq_false_iff_eq.mpr c59
              clear c59
              have H' := Aside0.mk H
              clear H
              obtain ⟨Ao60, co60, eo60⟩ := Kd.R_slice HO_13.out
              subst eo60
              go_wp2_with (first | (go_at_call 21; (with_reducible refine (trie_Trie_Blocks.calls _ t425 t454 _ ?side1 A58.out).mono ?_); (case side1 => repeat (first | exact (Kd.P_reads' HO_7.out).2.2 | (with_reducible refine Kd.PC_alloc ?_ _) | (with_reducible refine Kd.PC_drewN ?_ _) | (with_reducible refine Kd.PC_drew ?_))); rintro e w' ⟨rfl, ⟨nd, rfl⟩⟩; (try first | exact ⟨rfl, _, World.drewN_drewN _ _ _⟩ | exact ⟨rfl, _, Eq.trans (World.drewN_drewN _ _ _) (congrArg (World.drewN _) (Nat.add_assoc _ _ _))⟩)))
              repeat (go_quiet (first | (go_at_call 21; (with_reducible refine (trie_Trie_Blocks.calls _ t425 t454 _ ?side1 A58.out).mono ?_); (case side1 => repeat (first | exact (Kd.P_reads' HO_7.out).2.2 | (with_reducible refine Kd.PC_alloc ?_ _) | (with_reducible refine Kd.PC_drewN ?_ _) | (with_reducible refine Kd.PC_drew ?_))); rintro e w' ⟨rfl, ⟨nd, rfl⟩⟩; (try first | exact ⟨rfl, _, World.drewN_drewN _ _ _⟩ | exact ⟨rfl, _, Eq.trans (World.drewN_drewN _ _ _) (congrArg (World.drewN _) (Nat.add_assoc _ _ _))⟩))); try go_wp2_with (first | (go_at_call 21; (with_reducible refine (trie_Trie_Blocks.calls _ t425 t454 _ ?side1 A58.out).mono ?_); (case side1 => repeat (first | exact (Kd.P_reads' HO_7.out).2.2 | (with_reducible refine Kd.PC_alloc ?_ _) | (with_reducible refine Kd.PC_drewN ?_ _) | (with_reducible refine Kd.PC_drew ?_))); rintro e w' ⟨rfl, ⟨nd, rfl⟩⟩; (try first | exact ⟨rfl, _, World.drewN_drewN _ _ _⟩ | exact ⟨rfl, _, Eq.trans (World.drewN_drewN _ _ _) (congrArg (World.drewN _) (Nat.add_assoc _ _ _))⟩))))
              go_loopg [17] k4 (fun kq v17 w' => ∃ (x17_5 : Int), v17 = .int .i64 x17_5 ∧ Aside0 (endonymlaw4_TrieAgain.l1 kq l2 t425 t444 x15_4 x17_5 = some true) ∧ Aside0 (kq ≤ k4) ∧ Aside0 (Kd.P k57 57 w' w.heap.size (fun k_ => some k_ ≠ ((.slice Ao60 t444.length co60) : Value).ownBlock) (.pointer Ao21) t425) ∧ Aside0 (Kd.R (Kd.int .u16) 49 w' w.heap.size (fun _ => True) (.slice Ao60 t444.length co60) t444) ∧ Aside0 (Below w.heap.size w w'))
              case atStart => exact ⟨(0), (by first | rfl | (simp; done) | (simp [*]; done)), H', ⟨Nat.le_refl _⟩, ⟨by (with_reducible repeat (first | apply Kd.P_alloc | apply Kd.P_drewN | apply Kd.P_drew)); first | exact Kd.P_mono HO_7.out (fun _ hk => hk.1) | exact Kd.P_mono HO_7.out (fun _ hk => (by first | exact hk.1 | exact fun e_ => hk.1 (e_.trans (own_len _ _ _ _ _))))⟩, ⟨by (with_reducible repeat (first | apply Kd.R_alloc | apply Kd.R_drewN | apply Kd.R_drew)); exact Kd.R_mono HO_13.out (fun _ hk => trivial)⟩, ⟨by repeat (first | (with_reducible first | exact HB.out | apply below_alloc | apply pw_below_drewN | apply below_drew1) | exact HB.out)⟩⟩
              case round =>
               clear H'
               (try clear c1); (try clear c2); (try clear p2); (try clear c3); (try clear c4); (try clear p4); (try clear q4); (try clear hx4); (try clear c5); (try clear p6); (try clear c7); (try clear c10); (try clear c10b0); (try clear c10b1); (try clear c13); (try clear c15); (try clear c26); (try clear c27); (try clear c27b0); (try clear c27b1); (try clear c28); (try clear c28b0); (try clear c30); (try clear c36); (try clear c43); (try clear c43b0); (try clear c43b1); (try clear p45); (try clear q45); (try clear hx45); (try clear c46); (try clear c47); (try clear c47b0); (try clear c50); (try clear c50b0); (try clear c51); (try clear c51b0); (try clear c52); (try clear c52b0); (try clear c52b1); (try clear c54); (try clear c55); (try clear c55b0); (try clear c56); (try clear c56b0); (try clear c57); (try clear c57b0); (try clear c57b1); (try clear c59); (try clear c59b0); (try clear c59b1); (try clear hx450_0); (try clear hx451_0); (try clear hx452_0); (try clear hx453_0); (try clear p2); (try clear p4); (try clear p45); (try clear p450); (try clear p451); (try clear p452); (try clear p453); (try clear p6); (try clear q4); (try clear q45); (try clear q450); (try clear q451); (try clear q452); (try clear q453)
               obtain ⟨x17_5, rfl, HA, HK5, HO_7, HO_13, HB⟩ := hrel
               cases gk with
               | zero => exact absurd HA.out (by simp [endonymlaw4_TrieAgain.l1])
               | succ k5 =>
                have H := HA.out
                clear HA
                simp only [endonymlaw4_TrieAgain.l1] at H
                have HC61 := Aside0.mk H
                clear H
                go_upto_region 22 with (fail)
                repeat (go_quiet (fail); go_upto_region 22 with (fail))
                go_cut [137] (fun v137 wc => ∃ (kq : Nat) (x137_60 : Bool), v137 = .bool x137_60 ∧ Aside0 (endonymlaw4_TrieAgain.j6 kq l2 t425 t444 x15_4 x17_5 x137_60 = some true) ∧ Aside0 (kq ≤ k5) ∧ Aside0 (Kd.P k57 57 wc w.heap.size (fun k_ => some k_ ≠ ((.slice Ao60 t444.length co60) : Value).ownBlock) (.pointer Ao21) t425) ∧ Aside0 (Kd.R (Kd.int .u16) 49 wc w.heap.size (fun _ => True) (.slice Ao60 t444.length co60) t444) ∧ Aside0 (Below w.heap.size w wc))
                case first =>
                 have H := HC61.out
                 clear HC61
                 by_cases c62 : x17_5 < x15_4
                 ·rw [if_pos c62] at H
                  have c62b0 : decide (x17_5 < x15_4) = true := decide_eq_true c62
                  clear c62
                  (first | rw [c62b0] | (simp only [i64_w, i32_w]; rw [c62b0]) | skip)
                  as_aux_lemma =>
                   have H' := Aside0.mk H
                   clear H
                   go_wp2
                   repeat (go_quiet (fail); try go_wp2)
                   go_meet
                   case rel => exact ⟨_, (decide (x17_5 < 60)), (by first | rfl | (simp; done) | (simp [*]; done)), H', ⟨by have := HJ5.out; have := HJ19.out; have := HJ38.out; have := HK4.out; have := HK5.out; first | omega | exact Nat.le_refl _⟩, ⟨by (with_reducible repeat (first | apply Kd.P_alloc | apply Kd.P_drewN | apply Kd.P_drew)); first | exact HO_7.out | exact Kd.P_mono HO_7.out (fun _ hk => (by first | exact hk | exact fun e_ => hk (e_.trans (own_len _ _ _ _ _))))⟩, ⟨by (with_reducible repeat (first | apply Kd.R_alloc | apply Kd.R_drewN | apply Kd.R_drew)); exact HO_13.out⟩, ⟨by repeat (first | (with_reducible first | exact HB.out | apply below_alloc | apply pw_below_drewN | apply below_drew1) | exact HB.out)⟩⟩
                 ·rw [if_neg c62] at H
                  have c62b0 : decide (x17_5 < x15_4) = false := decide_eq_false c62
                  clear c62
                  (first | rw [c62b0] | (simp only [i64_w, i32_w]; rw [c62b0]) | skip)
                  as_aux_lemma =>
                   have H' := Aside0.mk H
                   clear H
                   go_wp2
                   repeat (go_quiet (fail); try go_wp2)
                   go_meet
                   case rel => exact ⟨_, (false), (by first | rfl | (simp; done) | (simp [*]; done)), H', ⟨by have := HJ5.out; have := HJ19.out; have := HJ38.out; have := HK4.out; have := HK5.out; first | omega | exact Nat.le_refl _⟩, ⟨by (with_reducible repeat (first | apply Kd.P_alloc | apply Kd.P_drewN | apply Kd.P_drew)); first | exact HO_7.out | exact Kd.P_mono HO_7.out (fun _ hk => (by first | exact hk | exact fun e_ => hk (e_.trans (own_len _ _ _ _ _))))⟩, ⟨by (with_reducible repeat (first | apply Kd.R_alloc | apply Kd.R_drewN | apply Kd.R_drew)); exact HO_13.out⟩, ⟨by repeat (first | (with_reducible first | exact HB.out | apply below_alloc | apply pw_below_drewN | apply below_drew1) | exact HB.out)⟩⟩
                case rest =>
                 clear HC61
                 (try clear c1); (try clear c2); (try clear p2); (try clear c3); (try clear c4); (try clear p4); (try clear q4); (try clear hx4); (try clear c5); (try clear c6); (try clear p6); (try clear c7); (try clear c10); (try clear c10b0); (try clear c10b1); (try clear c13); (try clear c15); (try clear c26); (try clear c27); (try clear c27b0); (try clear c27b1); (try clear c28); (try clear c28b0); (try clear c30); (try clear c36); (try clear c43); (try clear c43b0); (try clear c43b1); (try clear p45); (try clear q45); (try clear hx45); (try clear c46); (try clear c47); (try clear c47b0); (try clear c50); (try clear c50b0); (try clear c51); (try clear c51b0); (try clear c52); (try clear c52b0); (try clear c52b1); (try clear c54); (try clear c55); (try clear c55b0); (try clear c56); (try clear c56b0); (try clear c57); (try clear c57b0); (try clear c57b1); (try clear c59); (try clear c59b0); (try clear c59b1); (try clear c62); (try clear c62b0); (try clear hx450_0); (try clear hx451_0); (try clear hx452_0); (try clear hx453_0); (try clear p2); (try clear p4); (try clear p45); (try clear p450); (try clear p451); (try clear p452); (try clear p453); (try clear p6); (try clear q4); (try clear q45); (try clear q450); (try clear q451); (try clear q452); (try clear q453)
                 obtain ⟨kq, x137_60, rfl, HA, HJ60, HO_7, HO_13, HB⟩ := hcut
                 cases kq with
                 | zero => exact absurd HA.out (by simp [endonymlaw4_TrieAgain.j6])
                 | succ kj60 =>
                  have H := HA.out
                  clear HA
                  simp only [endonymlaw4_TrieAgain.j6] at H
                  by_cases c63 : x137_60 = true
                  ·subst c63
                   have H1 : ((trie_Trie_Block.f t425 x17_5).bind fun bt455 => (endonymlaw4_TrieAgain.l2 kj60 l2 t425 t444 x15_4 x17_5 (arrPut 64 (List.replicate 64 0) bt455.1) 0)) = some true := by rw [if_pos rfl] at H; exact H
                   clear H
                   have H := H1
                   clear H1
                   replace H := Option.bind_eq_some_iff.mp H
                   obtain ⟨⟨t455, t456⟩, A640, H⟩ := H
                   replace H : (endonymlaw4_TrieAgain.l2 kj60 l2 t425 t444 x15_4 x17_5 (arrPut 64 (List.replicate 64 0) t455) 0) = some true := H
                   have A64 := Aside0.mk A640
                   clear A640
                   obtain ⟨y457, hy457⟩ : ∃ y_ : List Int, y_ = (List.replicate 64 0) := ⟨_, rfl⟩
                   replace H : (endonymlaw4_TrieAgain.l2 kj60 l2 t425 t444 x15_4 x17_5 (arrPut 64 y457 t455) 0) = some true := by first | (rw [hy457]; with_reducible exact H) | (have H2_ := (Option.bind_some _ _).symm.trans H; rw [hy457]; with_reducible exact H2_) | (have H2_ := (Option.bind_some _ _).symm.trans H; with_reducible exact H2_) | with_reducible exact H | (rw [hy457]; exact H) | exact H
                   have Ny457 := Aside0.mk hy457
                   clear hy457
                   obtain ⟨y461, hy461⟩ : ∃ y_ : List Int, y_ = (arrPut 64 y457 t455) := ⟨_, rfl⟩
                   replace H : (endonymlaw4_TrieAgain.l2 kj60 l2 t425 t444 x15_4 x17_5 y461 0) = some true := by first | (rw [hy461]; with_reducible exact H) | (have H2_ := (Option.bind_some _ _).symm.trans H; rw [hy461]; with_reducible exact H2_) | (have H2_ := (Option.bind_some _ _).symm.trans H; with_reducible exact H2_) | with_reducible exact H | (rw [hy461]; exact H) | exact H
                   have Ny461 := Aside0.mk hy461
                   clear hy461
                   have H' := Aside0.mk H
                   clear H
                   go_wp2_with (first | (go_at_call 22; (with_reducible refine (trie_Trie_Block.calls _ t425 x17_5 t455 t456 _ ?side1 A64.out).mono ?_); (case side1 => repeat (first | exact (Kd.P_reads' HO_7.out).2.2 | (with_reducible refine Kd.PC_alloc ?_ _) | (with_reducible refine Kd.PC_drewN ?_ _) | (with_reducible refine Kd.PC_drew ?_))); rintro e w65 ⟨rfl, hb⟩; have n0_ := Aside0.mk (Kd.P_below (by (with_reducible repeat (first | apply Kd.P_alloc | apply Kd.P_drewN | apply Kd.P_drew)); first | exact HO_7.out | exact Kd.P_mono HO_7.out (fun _ hk => (by first | exact hk | exact fun e_ => hk (e_.trans (own_len _ _ _ _ _))))) hb); have n1_ := Aside0.mk (Kd.R_below (by (with_reducible repeat (first | apply Kd.R_alloc | apply Kd.R_drewN | apply Kd.R_drew)); exact HO_13.out) hb); have n2_ := Aside0.mk (below_step (by repeat (first | (with_reducible first | exact HB.out | apply below_alloc | apply pw_below_drewN | apply below_drew1) | exact HB.out)) hb); clear HO_7; clear HO_13; clear HB; have HO_7 := n0_; have HO_13 := n1_; have HB := n2_; clear n0_ n1_ n2_; (try clear hb); (try clear hb2); (try clear hk); (try clear hi)) | ((with_reducible refine gate_dst (N := 18) rfl ?_); (try (refine gate_guard (by rfl) ?_; dsimp only)); refine arrvar_event (k := .u16) (n := 64) (t := 50) rfl (N := 18) rfl rfl (by kernel_rfl) (by decide) (Below.refl _ _) ?_; intro goa460 w66 ho67 hb hg_ gb_; have GBa460 := Aside0.mk (Nat.le_trans (below_size (by repeat (first | (with_reducible first | exact HB.out | apply below_alloc | apply pw_below_drewN | apply below_drew1) | exact HB.out))) gb_); clear hg_ gb_; (first | rw [← Ny457.out] at ho67 | (simp only [Int.reduceToNat] at ho67; rw [← Ny457.out] at ho67)); have n0_ := Aside0.mk (Kd.P_elder' (by (with_reducible repeat (first | apply Kd.P_alloc | apply Kd.P_drewN | apply Kd.P_drew)); first | exact HO_7.out | exact Kd.P_mono HO_7.out (fun _ hk => (by first | exact hk | exact fun e_ => hk (e_.trans (own_len _ _ _ _ _))))) (Kd.R_base ho67) hb); have n1_ := Aside0.mk (Kd.R_below (by (with_reducible repeat (first | apply Kd.R_alloc | apply Kd.R_drewN | apply Kd.R_drew)); exact HO_13.out) hb); have n2_ := Aside0.mk (Kd.R_lower ho67 (below_size (by repeat (first | (with_reducible first | exact HB.out | apply below_alloc | apply pw_below_drewN | apply below_drew1) | exact HB.out)))); have n3_ := Aside0.mk (below_step (by repeat (first | (with_reducible first | exact HB.out | apply below_alloc | apply pw_below_drewN | apply below_drew1) | exact HB.out)) hb); clear HO_7; clear HO_13; clear HB; have HO_7 := n0_; have HO_13 := n1_; have HO459 := n2_; have HB := n3_; clear n0_ n1_ n2_ n3_; clear hb ho67) | ((with_reducible refine gate_store (t := 50) (p := 18) rfl ?_); (try (rw [drewN_self w66]; generalize hq_ : World.drewN w66 _ = w66; have n0_ := Aside0.mk (Kd.P_at hq_ HO_7.out); have n1_ := Aside0.mk (Kd.R_at hq_ HO_13.out); have n2_ := Aside0.mk (Kd.R_at hq_ HO459.out); have n3_ := Aside0.mk (below_at hq_ HB.out); clear hq_ HO_7 HO_13 HO459 HB; have HO_7 := n0_; have HO_13 := n1_; have HO459 := n2_; have HB := n3_; clear n0_ n1_ n2_ n3_)); refine arrput_event (k := .u16) (n := 64) (ys := t455) rfl rfl rfl rfl rfl (by kernel_rfl) HO459.out ?_; intro w69 hp0_ hg hbl_; have hp_ : Kd.R (Kd.int .u16) 50 w69 w.heap.size (fun _ => True) (.slice (some ⟨goa460, 0, none⟩) 64 64) y461 := (by rw [Ny461.out]; exact hp0_); have n0_ := Aside0.mk (Kd.P_after (v := (.slice (some ⟨goa460, 0, none⟩) 64 64)) (v1 := (.slice (some ⟨goa460, 0, none⟩) 64 64)) (ok := (fun k_ => some k_ ≠ (.slice Ao60 t444.length co60 : Value).ownBlock)) (by (with_reducible repeat (first | apply Kd.P_alloc | apply Kd.P_drewN | apply Kd.P_drew)); first | exact HO_7.out | exact Kd.P_mono HO_7.out (fun _ hk => ⟨(by first | exact hk.1 | exact fun e_ => hk.1 (e_.trans (own_len _ _ _ _ _))), (by first | exact hk.2 | exact fun e_ => hk.2 (e_.trans (own_len _ _ _ _ _)))⟩)) hg (.inl rfl)); have n1_ := Aside0.mk (Kd.R_over' (v := (.slice (some ⟨goa460, 0, none⟩) 64 64)) (by (with_reducible repeat (first | apply Kd.R_alloc | apply Kd.R_drewN | apply Kd.R_drew)); exact HO_13.out) (Kd.R_typed HO459.out) (by decide) hg); have n2_ := Aside0.mk (hp_); have n3_ := Aside0.mk (hbl_ _ _ HB.out GBa460.out); clear HO_7; clear HO_13; clear HO459; clear HB; have HO_7 := n0_; have HO_13 := n1_; have HO459 := n2_; have HB := n3_; clear n0_ n1_ n2_ n3_; clear hg hp_ hp0_ hbl_))
                   repeat (go_quiet (first | (go_at_call 22; (with_reducible refine (trie_Trie_Block.calls _ t425 x17_5 t455 t456 _ ?side1 A64.out).mono ?_); (case side1 => repeat (first | exact (Kd.P_reads' HO_7.out).2.2 | (with_reducible refine Kd.PC_alloc ?_ _) | (with_reducible refine Kd.PC_drewN ?_ _) | (with_reducible refine Kd.PC_drew ?_))); rintro e w65 ⟨rfl, hb⟩; have n0_ := Aside0.mk (Kd.P_below (by (with_reducible repeat (first | apply Kd.P_alloc | apply Kd.P_drewN | apply Kd.P_drew)); first | exact HO_7.out | exact Kd.P_mono HO_7.out (fun _ hk => (by first | exact hk | exact fun e_ => hk (e_.trans (own_len _ _ _ _ _))))) hb); have n1_ := Aside0.mk (Kd.R_below (by (with_reducible repeat (first | apply Kd.R_alloc | apply Kd.R_drewN | apply Kd.R_drew)); exact HO_13.out) hb); have n2_ := Aside0.mk (below_step (by repeat (first | (with_reducible first | exact HB.out | apply below_alloc | apply pw_below_drewN | apply below_drew1) | exact HB.out)) hb); clear HO_7; clear HO_13; clear HB; have HO_7 := n0_; have HO_13 := n1_; have HB := n2_; clear n0_ n1_ n2_; (try clear hb); (try clear hb2); (try clear hk); (try clear hi)) | ((with_reducible refine gate_dst (N := 18) rfl ?_); (try (refine gate_guard (by rfl) ?_; dsimp only)); refine arrvar_event (k := .u16) (n := 64) (t := 50) rfl (N := 18) rfl rfl (by kernel_rfl) (by decide) (Below.refl _ _) ?_; intro goa460 w66 ho67 hb hg_ gb_; have GBa460 := Aside0.mk (Nat.le_trans (below_size (by repeat (first | (with_reducible first | exact HB.out | apply below_alloc | apply pw_below_drewN | apply below_drew1) | exact HB.out))) gb_); clear hg_ gb_; (first | rw [← Ny457.out] at ho67 | (simp only [Int.reduceToNat] at ho67; rw [← Ny457.out] at ho67)); have n0_ := Aside0.mk (Kd.P_elder' (by (with_reducible repeat (first | apply Kd.P_alloc | apply Kd.P_drewN | apply Kd.P_drew)); first | exact HO_7.out | exact Kd.P_mono HO_7.out (fun _ hk => (by first | exact hk | exact fun e_ => hk (e_.trans (own_len _ _ _ _ _))))) (Kd.R_base ho67) hb); have n1_ := Aside0.mk (Kd.R_below (by (with_reducible repeat (first | apply Kd.R_alloc | apply Kd.R_drewN | apply Kd.R_drew)); exact HO_13.out) hb); have n2_ := Aside0.mk (Kd.R_lower ho67 (below_size (by repeat (first | (with_reducible first | exact HB.out | apply below_alloc | apply pw_below_drewN | apply below_drew1) | exact HB.out)))); have n3_ := Aside0.mk (below_step (by repeat (first | (with_reducible first | exact HB.out | apply below_alloc | apply pw_below_drewN | apply below_drew1) | exact HB.out)) hb); clear HO_7; clear HO_13; clear HB; have HO_7 := n0_; have HO_13 := n1_; have HO459 := n2_; have HB := n3_; clear n0_ n1_ n2_ n3_; clear hb ho67) | ((with_reducible refine gate_store (t := 50) (p := 18) rfl ?_); (try (rw [drewN_self w66]; generalize hq_ : World.drewN w66 _ = w66; have n0_ := Aside0.mk (Kd.P_at hq_ HO_7.out); have n1_ := Aside0.mk (Kd.R_at hq_ HO_13.out); have n2_ := Aside0.mk (Kd.R_at hq_ HO459.out); have n3_ := Aside0.mk (below_at hq_ HB.out); clear hq_ HO_7 HO_13 HO459 HB; have HO_7 := n0_; have HO_13 := n1_; have HO459 := n2_; have HB := n3_; clear n0_ n1_ n2_ n3_)); refine arrput_event (k := .u16) (n := 64) (ys := t455) rfl rfl rfl rfl rfl (by kernel_rfl) HO459.out ?_; intro w69 hp0_ hg hbl_; have hp_ : Kd.R (Kd.int .u16) 50 w69 w.heap.size (fun _ => True) (.slice (some ⟨goa460, 0, none⟩) 64 64) y461 := (by rw [Ny461.out]; exact hp0_); have n0_ := Aside0.mk (Kd.P_after (v := (.slice (some ⟨goa460, 0, none⟩) 64 64)) (v1 := (.slice (some ⟨goa460, 0, none⟩) 64 64)) (ok := (fun k_ => some k_ ≠ (.slice Ao60 t444.length co60 : Value).ownBlock)) (by (with_reducible repeat (first | apply Kd.P_alloc | apply Kd.P_drewN | apply Kd.P_drew)); first | exact HO_7.out | exact Kd.P_mono HO_7.out (fun _ hk => ⟨(by first | exact hk.1 | exact fun e_ => hk.1 (e_.trans (own_len _ _ _ _ _))), (by first | exact hk.2 | exact fun e_ => hk.2 (e_.trans (own_len _ _ _ _ _)))⟩)) hg (.inl rfl)); have n1_ := Aside0.mk (Kd.R_over' (v := (.slice (some ⟨goa460, 0, none⟩) 64 64)) (by (with_reducible repeat (first | apply Kd.R_alloc | apply Kd.R_drewN | apply Kd.R_drew)); exact HO_13.out) (Kd.R_typed HO459.out) (by decide) hg); have n2_ := Aside0.mk (hp_); have n3_ := Aside0.mk (hbl_ _ _ HB.out GBa460.out); clear HO_7; clear HO_13; clear HO459; clear HB; have HO_7 := n0_; have HO_13 := n1_; have HO459 := n2_; have HB := n3_; clear n0_ n1_ n2_ n3_; clear hg hp_ hp0_ hbl_)); try go_wp2_with (first | (go_at_call 22; (with_reducible refine (trie_Trie_Block.calls _ t425 x17_5 t455 t456 _ ?side1 A64.out).mono ?_); (case side1 => repeat (first | exact (Kd.P_reads' HO_7.out).2.2 | (with_reducible refine Kd.PC_alloc ?_ _) | (with_reducible refine Kd.PC_drewN ?_ _) | (with_reducible refine Kd.PC_drew ?_))); rintro e w65 ⟨rfl, hb⟩; have n0_ := Aside0.mk (Kd.P_below (by (with_reducible repeat (first | apply Kd.P_alloc | apply Kd.P_drewN | apply Kd.P_drew)); first | exact HO_7.out | exact Kd.P_mono HO_7.out (fun _ hk => (by first | exact hk | exact fun e_ => hk (e_.trans (own_len _ _ _ _ _))))) hb); have n1_ := Aside0.mk (Kd.R_below (by (with_reducible repeat (first | apply Kd.R_alloc | apply Kd.R_drewN | apply Kd.R_drew)); exact HO_13.out) hb); have n2_ := Aside0.mk (below_step (by repeat (first | (with_reducible first | exact HB.out | apply below_alloc | apply pw_below_drewN | apply below_drew1) | exact HB.out)) hb); clear HO_7; clear HO_13; clear HB; have HO_7 := n0_; have HO_13 := n1_; have HB := n2_; clear n0_ n1_ n2_; (try clear hb); (try clear hb2); (try clear hk); (try clear hi)) | ((with_reducible refine gate_dst (N := 18) rfl ?_); (try (refine gate_guard (by rfl) ?_; dsimp only)); refine arrvar_event (k := .u16) (n := 64) (t := 50) rfl (N := 18) rfl rfl (by kernel_rfl) (by decide) (Below.refl _ _) ?_; intro goa460 w66 ho67 hb hg_ gb_; have GBa460 := Aside0.mk (Nat.le_trans (below_size (by repeat (first | (with_reducible first | exact HB.out | apply below_alloc | apply pw_below_drewN | apply below_drew1) | exact HB.out))) gb_); clear hg_ gb_; (first | rw [← Ny457.out] at ho67 | (simp only [Int.reduceToNat] at ho67; rw [← Ny457.out] at ho67)); have n0_ := Aside0.mk (Kd.P_elder' (by (with_reducible repeat (first | apply Kd.P_alloc | apply Kd.P_drewN | apply Kd.P_drew)); first | exact HO_7.out | exact Kd.P_mono HO_7.out (fun _ hk => (by first | exact hk | exact fun e_ => hk (e_.trans (own_len _ _ _ _ _))))) (Kd.R_base ho67) hb); have n1_ := Aside0.mk (Kd.R_below (by (with_reducible repeat (first | apply Kd.R_alloc | apply Kd.R_drewN | apply Kd.R_drew)); exact HO_13.out) hb); have n2_ := Aside0.mk (Kd.R_lower ho67 (below_size (by repeat (first | (with_reducible first | exact HB.out | apply below_alloc | apply pw_below_drewN | apply below_drew1) | exact HB.out)))); have n3_ := Aside0.mk (below_step (by repeat (first | (with_reducible first | exact HB.out | apply below_alloc | apply pw_below_drewN | apply below_drew1) | exact HB.out)) hb); clear HO_7; clear HO_13; clear HB; have HO_7 := n0_; have HO_13 := n1_; have HO459 := n2_; have HB := n3_; clear n0_ n1_ n2_ n3_; clear hb ho67) | ((with_reducible refine gate_store (t := 50) (p := 18) rfl ?_); (try (rw [drewN_self w66]; generalize hq_ : World.drewN w66 _ = w66; have n0_ := Aside0.mk (Kd.P_at hq_ HO_7.out); have n1_ := Aside0.mk (Kd.R_at hq_ HO_13.out); have n2_ := Aside0.mk (Kd.R_at hq_ HO459.out); have n3_ := Aside0.mk (below_at hq_ HB.out); clear hq_ HO_7 HO_13 HO459 HB; have HO_7 := n0_; have HO_13 := n1_; have HO459 := n2_; have HB := n3_; clear n0_ n1_ n2_ n3_)); refine arrput_event (k := .u16) (n := 64) (ys := t455) rfl rfl rfl rfl rfl (by kernel_rfl) HO459.out ?_; intro w69 hp0_ hg hbl_; have hp_ : Kd.R (Kd.int .u16) 50 w69 w.heap.size (fun _ => True) (.slice (some ⟨goa460, 0, none⟩) 64 64) y461 := (by rw [Ny461.out]; exact hp0_); have n0_ := Aside0.mk (Kd.P_after (v := (.slice (some ⟨goa460, 0, none⟩) 64 64)) (v1 := (.slice (some ⟨goa460, 0, none⟩) 64 64)) (ok := (fun k_ => some k_ ≠ (.slice Ao60 t444.length co60 : Value).ownBlock)) (by (with_reducible repeat (first | apply Kd.P_alloc | apply Kd.P_drewN | apply Kd.P_drew)); first | exact HO_7.out | exact Kd.P_mono HO_7.out (fun _ hk => ⟨(by first | exact hk.1 | exact fun e_ => hk.1 (e_.trans (own_len _ _ _ _ _))), (by first | exact hk.2 | exact fun e_ => hk.2 (e_.trans (own_len _ _ _ _ _)))⟩)) hg (.inl rfl)); have n1_ := Aside0.mk (Kd.R_over' (v := (.slice (some ⟨goa460, 0, none⟩) 64 64)) (by (with_reducible repeat (first | apply Kd.R_alloc | apply Kd.R_drewN | apply Kd.R_drew)); exact HO_13.out) (Kd.R_typed HO459.out) (by decide) hg); have n2_ := Aside0.mk (hp_); have n3_ := Aside0.mk (hbl_ _ _ HB.out GBa460.out); clear HO_7; clear HO_13; clear HO459; clear HB; have HO_7 := n0_; have HO_13 := n1_; have HO459 := n2_; have HB := n3_; clear n0_ n1_ n2_ n3_; clear hg hp_ hp0_ hbl_)))
                   go_loopg [20] kj60 (fun kq v20 w' => ∃ (x18_7 : List Int) (x20_7 : Int), v20 = .int .i64 x20_7 ∧ Aside0 (endonymlaw4_TrieAgain.l2 kq l2 t425 t444 x15_4 x17_5 x18_7 x20_7 = some true) ∧ Aside0 (kq ≤ kj60) ∧ Aside0 (Kd.P k57 57 w' w.heap.size (fun k_ => some k_ ≠ ((.slice Ao60 t444.length co60) : Value).ownBlock ∧ some k_ ≠ ((.slice (some ⟨goa460, 0, none⟩) 64 64) : Value).ownBlock) (.pointer Ao21) t425) ∧ Aside0 (Kd.R (Kd.int .u16) 49 w' w.heap.size (fun _ => True) (.slice Ao60 t444.length co60) t444) ∧ Aside0 (Kd.R (Kd.int .u16) 50 w' w.heap.size (fun _ => True) (.slice (some ⟨goa460, 0, none⟩) 64 64) x18_7) ∧ Aside0 (Below w.heap.size w w'))
                   case atStart => exact ⟨(y461), (0), (by first | rfl | (simp; done) | (simp [*]; done)), H', ⟨Nat.le_refl _⟩, ⟨by (with_reducible repeat (first | apply Kd.P_alloc | apply Kd.P_drewN | apply Kd.P_drew)); first | exact HO_7.out | exact Kd.P_mono HO_7.out (fun _ hk => ⟨(by first | exact hk.1 | exact fun e_ => hk.1 (e_.trans (own_len _ _ _ _ _))), (by first | exact hk.2 | exact fun e_ => hk.2 (e_.trans (own_len _ _ _ _ _)))⟩)⟩, ⟨by (with_reducible repeat (first | apply Kd.R_alloc | apply Kd.R_drewN | apply Kd.R_drew)); exact HO_13.out⟩, ⟨by (with_reducible repeat (first | apply Kd.R_alloc | apply Kd.R_drewN | apply Kd.R_drew)); exact HO459.out⟩, ⟨by repeat (first | (with_reducible first | exact HB.out | apply below_alloc | apply pw_below_drewN | apply below_drew1) | exact HB.out)⟩⟩
                   case round =>
                    clear H'
                    (try clear c1); (try clear c2); (try clear p2); (try clear c3); (try clear c4); (try clear p4); (try clear q4); (try clear hx4); (try clear c5); (try clear c6); (try clear p6); (try clear c7); (try clear c10); (try clear c10b0); (try clear c10b1); (try clear c13); (try clear c15); (try clear c26); (try clear c27); (try clear c27b0); (try clear c27b1); (try clear c28); (try clear c28b0); (try clear c30); (try clear c36); (try clear c43); (try clear c43b0); (try clear c43b1); (try clear p45); (try clear q45); (try clear hx45); (try clear c46); (try clear c47); (try clear c47b0); (try clear c50); (try clear c50b0); (try clear c51); (try clear c51b0); (try clear c52); (try clear c52b0); (try clear c52b1); (try clear c54); (try clear c55); (try clear c55b0); (try clear c56); (try clear c56b0); (try clear c57); (try clear c57b0); (try clear c57b1); (try clear c59); (try clear c59b0); (try clear c59b1); (try clear c62); (try clear c62b0); (try clear c63); (try clear p64); (try clear hx450_0); (try clear hx451_0); (try clear hx452_0); (try clear hx453_0); (try clear p2); (try clear p4); (try clear p45); (try clear p450); (try clear p451); (try clear p452); (try clear p453); (try clear p6); (try clear q4); (try clear q45); (try clear q450); (try clear q451); (try clear q452); (try clear q453)
                    obtain ⟨x18_7, x20_7, rfl, HA, HK7, HO_7, HO_13, HO_18, HB⟩ := hrel
                    cases gk with
                    | zero => exact absurd HA.out (by simp [endonymlaw4_TrieAgain.l2])
                    | succ k7 =>
                     have H := HA.out
                     clear HA
                     simp only [endonymlaw4_TrieAgain.l2] at H
                     by_cases c70 : x20_7 < x17_5
                     ·rw [if_pos c70] at H
                      have c70b0 : decide (x20_7 < x17_5) = true := decide_eq_true c70
                      clear c70
                      replace H := Option.bind_eq_some_iff.mp H
                      obtain ⟨⟨t462, t463⟩, A710, H⟩ := H
                      replace H : (if (arrEq 64 x18_7 (arrPut 64 (List.replicate 64 0) t462)) = true then (some false) else (endonymlaw4_TrieAgain.l2 k7 l2 t425 t444 x15_4 x17_5 x18_7 (wrap64 (x20_7 + 1)))) = some true := H
                      have A71 := Aside0.mk A710
                      clear A710
                      obtain ⟨y464, hy464⟩ : ∃ y_ : List Int, y_ = (List.replicate 64 0) := ⟨_, rfl⟩
                      replace H : (if (arrEq 64 x18_7 (arrPut 64 y464 t462)) = true then (some false) else (endonymlaw4_TrieAgain.l2 k7 l2 t425 t444 x15_4 x17_5 x18_7 (wrap64 (x20_7 + 1)))) = some true := by first | (rw [hy464]; with_reducible exact H) | (have H2_ := (Option.bind_some _ _).symm.trans H; rw [hy464]; with_reducible exact H2_) | (have H2_ := (Option.bind_some _ _).symm.trans H; with_reducible exact H2_) | with_reducible exact H | (rw [hy464]; exact H) | exact H
                      have Ny464 := Aside0.mk hy464
                      clear hy464
                      obtain ⟨y468, hy468⟩ : ∃ y_ : List Int, y_ = (arrPut 64 y464 t462) := ⟨_, rfl⟩
                      replace H : (if (arrEq 64 x18_7 y468) = true then (some false) else (endonymlaw4_TrieAgain.l2 k7 l2 t425 t444 x15_4 x17_5 x18_7 (wrap64 (x20_7 + 1)))) = some true := by first | (rw [hy468]; with_reducible exact H) | (have H2_ := (Option.bind_some _ _).symm.trans H; rw [hy468]; with_reducible exact H2_) | (have H2_ := (Option.bind_some _ _).symm.trans H; with_reducible exact H2_) | with_reducible exact H | (rw [hy468]; exact H) | exact H
                      have Ny468 := Aside0.mk hy468
                      clear hy468
                      by_cases c72 : (arrEq 64 x18_7 y468) = true
                      ·rw [if_pos c72] at H
                       have c72b0 : (arrEq 64 x18_7 y468) = true := c72
                       clear c72
                       exact absurd H (by simp)
                      ·rw [if_neg c72] at H
                       have c72b0 : (arrEq 64 x18_7 y468) = false := by simpa using c72
                       clear c72
                       as_aux_lemma =>
                        have H' := Aside0.mk H
                        clear H
                        go_wp2_with (first | (go_at_call 22; (with_reducible refine (trie_Trie_Block.calls _ t425 x20_7 t462 t463 _ ?side1 A71.out).mono ?_); (case side1 => repeat (first | exact (Kd.P_reads' HO_7.out).2.2 | (with_reducible refine Kd.PC_alloc ?_ _) | (with_reducible refine Kd.PC_drewN ?_ _) | (with_reducible refine Kd.PC_drew ?_))); rintro e w73 ⟨rfl, hb⟩; have n0_ := Aside0.mk (Kd.P_below (by (with_reducible repeat (first | apply Kd.P_alloc | apply Kd.P_drewN | apply Kd.P_drew)); first | exact HO_7.out | exact Kd.P_mono HO_7.out (fun _ hk => ⟨(by first | exact hk.1 | exact fun e_ => hk.1 (e_.trans (own_len _ _ _ _ _))), (by first | exact hk.2 | exact fun e_ => hk.2 (e_.trans (own_len _ _ _ _ _)))⟩)) hb); have n1_ := Aside0.mk (Kd.R_below (by (with_reducible repeat (first | apply Kd.R_alloc | apply Kd.R_drewN | apply Kd.R_drew)); exact HO_13.out) hb); have n2_ := Aside0.mk (Kd.R_below (by (with_reducible repeat (first | apply Kd.R_alloc | apply Kd.R_drewN | apply Kd.R_drew)); exact HO_18.out) hb); have n3_ := Aside0.mk (below_step (by repeat (first | (with_reducible first | exact HB.out | apply below_alloc | apply pw_below_drewN | apply below_drew1) | exact HB.out)) hb); clear HO_7; clear HO_13; clear HO_18; clear HB; have HO_7 := n0_; have HO_13 := n1_; have HO_18 := n2_; have HB := n3_; clear n0_ n1_ n2_ n3_; (try clear hb); (try clear hb2); (try clear hk); (try clear hi)) | ((with_reducible refine gate_dst (N := 21) rfl ?_); (try (refine gate_guard (by rfl) ?_; dsimp only)); refine arrvar_event (k := .u16) (n := 64) (t := 50) rfl (N := 21) rfl rfl (by kernel_rfl) (by decide) (Below.refl _ _) ?_; intro goa467 w74 ho75 hb hg_ gb_; have GBa467 := Aside0.mk (Nat.le_trans (below_size (by repeat (first | (with_reducible first | exact HB.out | apply below_alloc | apply pw_below_drewN | apply below_drew1) | exact HB.out))) gb_); clear hg_ gb_; (first | rw [← Ny464.out] at ho75 | (simp only [Int.reduceToNat] at ho75; rw [← Ny464.out] at ho75)); have n0_ := Aside0.mk (Kd.P_elder' (by (with_reducible repeat (first | apply Kd.P_alloc | apply Kd.P_drewN | apply Kd.P_drew)); first | exact HO_7.out | exact Kd.P_mono HO_7.out (fun _ hk => ⟨(by first | exact hk.1 | exact fun e_ => hk.1 (e_.trans (own_len _ _ _ _ _))), (by first | exact hk.2 | exact fun e_ => hk.2 (e_.trans (own_len _ _ _ _ _)))⟩)) (Kd.R_base ho75) hb); have n1_ := Aside0.mk (Kd.R_below (by (with_reducible repeat (first | apply Kd.R_alloc | apply Kd.R_drewN | apply Kd.R_drew)); exact HO_13.out) hb); have n2_ := Aside0.mk (Kd.R_elder' (by (with_reducible repeat (first | apply Kd.R_alloc | apply Kd.R_drewN | apply Kd.R_drew)); exact HO_18.out) (Kd.R_base ho75) hb); have n3_ := Aside0.mk (Kd.R_lower (Kd.R_new' ho75 (Kd.R_lt (by (with_reducible repeat (first | apply Kd.R_alloc | apply Kd.R_drewN | apply Kd.R_drew)); exact HO_18.out))) (below_size (by repeat (first | (with_reducible first | exact HB.out | apply below_alloc | apply pw_below_drewN | apply below_drew1) | exact HB.out)))); have n4_ := Aside0.mk (below_step (by repeat (first | (with_reducible first | exact HB.out | apply below_alloc | apply pw_below_drewN | apply below_drew1) | exact HB.out)) hb); clear HO_7; clear HO_13; clear HO_18; clear HB; have HO_7 := n0_; have HO_13 := n1_; have HO_18 := n2_; have HO466 := n3_; have HB := n4_; clear n0_ n1_ n2_ n3_ n4_; clear hb ho75; have n_ := Aside0.mk (Kd.R_mono (ok' := (fun k_ => some k_ ≠ (.slice (some ⟨goa460, 0, none⟩) 64 64 : Value).ownBlock)) HO466.out (fun k_ hk => hk.2)); clear HO466; have HO466 := n_; clear n_) | ((with_reducible refine gate_store (t := 50) (p := 21) rfl ?_); (try (rw [drewN_self w74]; generalize hq_ : World.drewN w74 _ = w74; have n0_ := Aside0.mk (Kd.P_at hq_ HO_7.out); have n1_ := Aside0.mk (Kd.R_at hq_ HO_13.out); have n2_ := Aside0.mk (Kd.R_at hq_ HO_18.out); have n3_ := Aside0.mk (Kd.R_at hq_ HO466.out); have n4_ := Aside0.mk (below_at hq_ HB.out); clear hq_ HO_7 HO_13 HO_18 HO466 HB; have HO_7 := n0_; have HO_13 := n1_; have HO_18 := n2_; have HO466 := n3_; have HB := n4_; clear n0_ n1_ n2_ n3_ n4_; (try (have n_ := Aside0.mk (Kd.R_mono (ok' := (fun k_ => some k_ ≠ (.slice (some ⟨goa460, 0, none⟩) 64 64 : Value).ownBlock)) HO466.out (fun k_ hk => hk.2)); clear HO466; have HO466 := n_; clear n_)))); refine arrput_event (k := .u16) (n := 64) (ys := t462) rfl rfl rfl rfl rfl (by kernel_rfl) HO466.out ?_; intro w77 hp0_ hg hbl_; have hp_ : Kd.R (Kd.int .u16) 50 w77 w.heap.size (fun k_ => some k_ ≠ (.slice (some ⟨goa460, 0, none⟩) 64 64 : Value).ownBlock) (.slice (some ⟨goa467, 0, none⟩) 64 64) y468 := (by rw [Ny468.out]; exact hp0_); have n0_ := Aside0.mk (Kd.P_after (v := (.slice (some ⟨goa467, 0, none⟩) 64 64)) (v1 := (.slice (some ⟨goa467, 0, none⟩) 64 64)) (ok := (fun k_ => some k_ ≠ (.slice Ao60 t444.length co60 : Value).ownBlock ∧ some k_ ≠ (.slice (some ⟨goa460, 0, none⟩) 64 64 : Value).ownBlock)) (by (with_reducible repeat (first | apply Kd.P_alloc | apply Kd.P_drewN | apply Kd.P_drew)); first | exact HO_7.out | exact Kd.P_mono HO_7.out (fun _ hk => ⟨⟨(by first | exact hk.1.1 | exact fun e_ => hk.1.1 (e_.trans (own_len _ _ _ _ _))), (by first | exact hk.1.2 | exact fun e_ => hk.1.2 (e_.trans (own_len _ _ _ _ _)))⟩, (by first | exact hk.2 | exact fun e_ => hk.2 (e_.trans (own_len _ _ _ _ _)))⟩)) hg (.inl rfl)); have n1_ := Aside0.mk (Kd.R_over' (v := (.slice (some ⟨goa467, 0, none⟩) 64 64)) (by (with_reducible repeat (first | apply Kd.R_alloc | apply Kd.R_drewN | apply Kd.R_drew)); exact HO_13.out) (Kd.R_typed HO466.out) (by decide) hg); have n2_ := Aside0.mk (Kd.R_after (v := (.slice (some ⟨goa467, 0, none⟩) 64 64)) (v1 := (.slice (some ⟨goa467, 0, none⟩) 64 64)) (ok := (fun _ => True)) (by (with_reducible repeat (first | apply Kd.R_alloc | apply Kd.R_drewN | apply Kd.R_drew)); first | exact HO_18.out | exact Kd.R_mono HO_18.out (fun _ hk => ⟨trivial, (by first | exact hk.2 | exact fun e_ => hk.2 (e_.trans (own_len _ _ _ _ _)))⟩)) hg (.inl rfl)); have n3_ := Aside0.mk (hp_); have n4_ := Aside0.mk (hbl_ _ _ HB.out GBa467.out); clear HO_7; clear HO_13; clear HO_18; clear HO466; clear HB; have HO_7 := n0_; have HO_13 := n1_; have HO_18 := n2_; have HO466 := n3_; have HB := n4_; clear n0_ n1_ n2_ n3_ n4_; clear hg hp_ hp0_ hbl_; have hap78 := R_arr_at (k := .u16) HO_18.out; have hap79 := R_arr_at (k := .u16) HO466.out) | ((refine wpList_load_arr rfl _ rfl rfl hap78 Try.underlying50 (by kernel_rfl) ?_); (try simp only [Act.put, List.setIfInBounds_toArray, List.set_cons_zero, List.set_cons_succ])) | ((refine wpList_load_arr rfl _ rfl rfl hap79 Try.underlying50 (by kernel_rfl) ?_); (try simp only [Act.put, List.setIfInBounds_toArray, List.set_cons_zero, List.set_cons_succ])))
                        repeat ((refine wp_region_quiet_lit (by kernel_rfl) (by kernel_rfl) ?_; (repeat (first | ((first | refine wpQuiet_load_arr rfl _ rfl rfl hap78 Try.underlying50 (by kernel_rfl) ?_ | refine wpQuiet_load_arr rfl _ rfl rfl hap79 Try.underlying50 (by kernel_rfl) ?_); simp only [Act.put, List.setIfInBounds_toArray, List.set_cons_zero, List.set_cons_succ]) | go_big_quiet_step (fail) | quiet_step (fail))); refine wpQuiet_nil ?_; intro _ hwq_; obtain ⟨nq, hwr_⟩ := hwq_; subst hwr_); try go_wp2_with (first | (go_at_call 22; (with_reducible refine (trie_Trie_Block.calls _ t425 x20_7 t462 t463 _ ?side1 A71.out).mono ?_); (case side1 => repeat (first | exact (Kd.P_reads' HO_7.out).2.2 | (with_reducible refine Kd.PC_alloc ?_ _) | (with_reducible refine Kd.PC_drewN ?_ _) | (with_reducible refine Kd.PC_drew ?_))); rintro e w73 ⟨rfl, hb⟩; have n0_ := Aside0.mk (Kd.P_below (by (with_reducible repeat (first | apply Kd.P_alloc | apply Kd.P_drewN | apply Kd.P_drew)); first | exact HO_7.out | exact Kd.P_mono HO_7.out (fun _ hk => ⟨(by first | exact hk.1 | exact fun e_ => hk.1 (e_.trans (own_len _ _ _ _ _))), (by first | exact hk.2 | exact fun e_ => hk.2 (e_.trans (own_len _ _ _ _ _)))⟩)) hb); have n1_ := Aside0.mk (Kd.R_below (by (with_reducible repeat (first | apply Kd.R_alloc | apply Kd.R_drewN | apply Kd.R_drew)); exact HO_13.out) hb); have n2_ := Aside0.mk (Kd.R_below (by (with_reducible repeat (first | apply Kd.R_alloc | apply Kd.R_drewN | apply Kd.R_drew)); exact HO_18.out) hb); have n3_ := Aside0.mk (below_step (by repeat (first | (with_reducible first | exact HB.out | apply below_alloc | apply pw_below_drewN | apply below_drew1) | exact HB.out)) hb); clear HO_7; clear HO_13; clear HO_18; clear HB; have HO_7 := n0_; have HO_13 := n1_; have HO_18 := n2_; have HB := n3_; clear n0_ n1_ n2_ n3_; (try clear hb); (try clear hb2); (try clear hk); (try clear hi)) | ((with_reducible refine gate_dst (N := 21) rfl ?_); (try (refine gate_guard (by rfl) ?_; dsimp only)); refine arrvar_event (k := .u16) (n := 64) (t := 50) rfl (N := 21) rfl rfl (by kernel_rfl) (by decide) (Below.refl _ _) ?_; intro goa467 w74 ho75 hb hg_ gb_; have GBa467 := Aside0.mk (Nat.le_trans (below_size (by repeat (first | (with_reducible first | exact HB.out | apply below_alloc | apply pw_below_drewN | apply below_drew1) | exact HB.out))) gb_); clear hg_ gb_; (first | rw [← Ny464.out] at ho75 | (simp only [Int.reduceToNat] at ho75; rw [← Ny464.out] at ho75)); have n0_ := Aside0.mk (Kd.P_elder' (by (with_reducible repeat (first | apply Kd.P_alloc | apply Kd.P_drewN | apply Kd.P_drew)); first | exact HO_7.out | exact Kd.P_mono HO_7.out (fun _ hk => ⟨(by first | exact hk.1 | exact fun e_ => hk.1 (e_.trans (own_len _ _ _ _ _))), (by first | exact hk.2 | exact fun e_ => hk.2 (e_.trans (own_len _ _ _ _ _)))⟩)) (Kd.R_base ho75) hb); have n1_ := Aside0.mk (Kd.R_below (by (with_reducible repeat (first | apply Kd.R_alloc | apply Kd.R_drewN | apply Kd.R_drew)); exact HO_13.out) hb); have n2_ := Aside0.mk (Kd.R_elder' (by (with_reducible repeat (first | apply Kd.R_alloc | apply Kd.R_drewN | apply Kd.R_drew)); exact HO_18.out) (Kd.R_base ho75) hb); have n3_ := Aside0.mk (Kd.R_lower (Kd.R_new' ho75 (Kd.R_lt (by (with_reducible repeat (first | apply Kd.R_alloc | apply Kd.R_drewN | apply Kd.R_drew)); exact HO_18.out))) (below_size (by repeat (first | (with_reducible first | exact HB.out | apply below_alloc | apply pw_below_drewN | apply below_drew1) | exact HB.out)))); have n4_ := Aside0.mk (below_step (by repeat (first | (with_reducible first | exact HB.out | apply below_alloc | apply pw_below_drewN | apply below_drew1) | exact HB.out)) hb); clear HO_7; clear HO_13; clear HO_18; clear HB; have HO_7 := n0_; have HO_13 := n1_; have HO_18 := n2_; have HO466 := n3_; have HB := n4_; clear n0_ n1_ n2_ n3_ n4_; clear hb ho75; have n_ := Aside0.mk (Kd.R_mono (ok' := (fun k_ => some k_ ≠ (.slice (some ⟨goa460, 0, none⟩) 64 64 : Value).ownBlock)) HO466.out (fun k_ hk => hk.2)); clear HO466; have HO466 := n_; clear n_) | ((with_reducible refine gate_store (t := 50) (p := 21) rfl ?_); (try (rw [drewN_self w74]; generalize hq_ : World.drewN w74 _ = w74; have n0_ := Aside0.mk (Kd.P_at hq_ HO_7.out); have n1_ := Aside0.mk (Kd.R_at hq_ HO_13.out); have n2_ := Aside0.mk (Kd.R_at hq_ HO_18.out); have n3_ := Aside0.mk (Kd.R_at hq_ HO466.out); have n4_ := Aside0.mk (below_at hq_ HB.out); clear hq_ HO_7 HO_13 HO_18 HO466 HB; have HO_7 := n0_; have HO_13 := n1_; have HO_18 := n2_; have HO466 := n3_; have HB := n4_; clear n0_ n1_ n2_ n3_ n4_; (try (have n_ := Aside0.mk (Kd.R_mono (ok' := (fun k_ => some k_ ≠ (.slice (some ⟨goa460, 0, none⟩) 64 64 : Value).ownBlock)) HO466.out (fun k_ hk => hk.2)); clear HO466; have HO466 := n_; clear n_)))); refine arrput_event (k := .u16) (n := 64) (ys := t462) rfl rfl rfl rfl rfl (by kernel_rfl) HO466.out ?_; intro w77 hp0_ hg hbl_; have hp_ : Kd.R (Kd.int .u16) 50 w77 w.heap.size (fun k_ => some k_ ≠ (.slice (some ⟨goa460, 0, none⟩) 64 64 : Value).ownBlock) (.slice (some ⟨goa467, 0, none⟩) 64 64) y468 := (by rw [Ny468.out]; exact hp0_); have n0_ := Aside0.mk (Kd.P_after (v := (.slice (some ⟨goa467, 0, none⟩) 64 64)) (v1 := (.slice (some ⟨goa467, 0, none⟩) 64 64)) (ok := (fun k_ => some k_ ≠ (.slice Ao60 t444.length co60 : Value).ownBlock ∧ some k_ ≠ (.slice (some ⟨goa460, 0, none⟩) 64 64 : Value).ownBlock)) (by (with_reducible repeat (first | apply Kd.P_alloc | apply Kd.P_drewN | apply Kd.P_drew)); first | exact HO_7.out | exact Kd.P_mono HO_7.out (fun _ hk => ⟨⟨(by first | exact hk.1.1 | exact fun e_ => hk.1.1 (e_.trans (own_len _ _ _ _ _))), (by first | exact hk.1.2 | exact fun e_ => hk.1.2 (e_.trans (own_len _ _ _ _ _)))⟩, (by first | exact hk.2 | exact fun e_ => hk.2 (e_.trans (own_len _ _ _ _ _)))⟩)) hg (.inl rfl)); have n1_ := Aside0.mk (Kd.R_over' (v := (.slice (some ⟨goa467, 0, none⟩) 64 64)) (by (with_reducible repeat (first | apply Kd.R_alloc | apply Kd.R_drewN | apply Kd.R_drew)); exact HO_13.out) (Kd.R_typed HO466.out) (by decide) hg); have n2_ := Aside0.mk (Kd.R_after (v := (.slice (some ⟨goa467, 0, none⟩) 64 64)) (v1 := (.slice (some ⟨goa467, 0, none⟩) 64 64)) (ok := (fun _ => True)) (by (with_reducible repeat (first | apply Kd.R_alloc | apply Kd.R_drewN | apply Kd.R_drew)); first | exact HO_18.out | exact Kd.R_mono HO_18.out (fun _ hk => ⟨trivial, (by first | exact hk.2 | exact fun e_ => hk.2 (e_.trans (own_len _ _ _ _ _)))⟩)) hg (.inl rfl)); have n3_ := Aside0.mk (hp_); have n4_ := Aside0.mk (hbl_ _ _ HB.out GBa467.out); clear HO_7; clear HO_13; clear HO_18; clear HO466; clear HB; have HO_7 := n0_; have HO_13 := n1_; have HO_18 := n2_; have HO466 := n3_; have HB := n4_; clear n0_ n1_ n2_ n3_ n4_; clear hg hp_ hp0_ hbl_; have hap78 := R_arr_at (k := .u16) HO_18.out; have hap79 := R_arr_at (k := .u16) HO466.out) | ((refine wpList_load_arr rfl _ rfl rfl hap78 Try.underlying50 (by kernel_rfl) ?_); (try simp only [Act.put, List.setIfInBounds_toArray, List.set_cons_zero, List.set_cons_succ])) | ((refine wpList_load_arr rfl _ rfl rfl hap79 Try.underlying50 (by kernel_rfl) ?_); (try simp only [Act.put, List.setIfInBounds_toArray, List.set_cons_zero, List.set_cons_succ]))))
                        go_roundg k7
                        case measure => have := HJ5.out; have := HJ19.out; have := HJ38.out; have := HK4.out; have := HK5.out; have := HJ60.out; have := HK7.out; omega
                        case rel => exact ⟨(x18_7), (wrap64 (x20_7 + 1)), (by first | rfl | (simp; done) | (simp [*]; done)), H', ⟨by have := HJ5.out; have := HJ19.out; have := HJ38.out; have := HK4.out; have := HK5.out; have := HJ60.out; have := HK7.out; omega⟩, ⟨by (with_reducible repeat (first | apply Kd.P_alloc | apply Kd.P_drewN | apply Kd.P_drew)); first | exact Kd.P_mono HO_7.out (fun _ hk => ⟨hk.1.1, hk.1.2⟩) | exact Kd.P_mono HO_7.out (fun _ hk => ⟨(by first | exact hk.1.1 | exact fun e_ => hk.1.1 (e_.trans (own_len _ _ _ _ _))), (by first | exact hk.1.2 | exact fun e_ => hk.1.2 (e_.trans (own_len _ _ _ _ _)))⟩)⟩, ⟨by (with_reducible repeat (first | apply Kd.R_alloc | apply Kd.R_drewN | apply Kd.R_drew)); exact HO_13.out⟩, ⟨by (with_reducible repeat (first | apply Kd.R_alloc | apply Kd.R_drewN | apply Kd.R_drew)); exact Kd.R_mono HO_18.out (fun _ hk => trivial)⟩, ⟨by repeat (first | (with_reducible first | exact HB.out | apply below_alloc | apply pw_below_drewN | apply below_drew1) | exact HB.out)⟩⟩
                     ·rw [if_neg c70] at H
                      have c70b0 : decide (x20_7 < x17_5) = false := decide_eq_false c70
                      clear c70
                      as_aux_lemma =>
                       have H' := Aside0.mk H
                       clear H
                       go_wp2
                       repeat ((refine wp_region_quiet_lit (by kernel_rfl) (by kernel_rfl) ?_; (repeat (first | ((first | refine wpQuiet_load_arr rfl _ rfl rfl hap78 Try.underlying50 (by kernel_rfl) ?_ | refine wpQuiet_load_arr rfl _ rfl rfl hap79 Try.underlying50 (by kernel_rfl) ?_); simp only [Act.put, List.setIfInBounds_toArray, List.set_cons_zero, List.set_cons_succ]) | go_big_quiet_step (fail) | quiet_step (fail))); refine wpQuiet_nil ?_; intro _ hwq_; obtain ⟨nq, hwr_⟩ := hwq_; subst hwr_); try go_wp2_with (fail))
                       go_roundg k7
                       case measure => have := HJ5.out; have := HJ19.out; have := HJ38.out; have := HK4.out; have := HK5.out; have := HJ60.out; have := HK7.out; omega
                       case rel => exact ⟨(wrap64 (x17_5 + 1)), (by first | rfl | (simp; done) | (simp [*]; done)), H', ⟨by have := HJ5.out; have := HJ19.out; have := HJ38.out; have := HK4.out; have := HK5.out; have := HJ60.out; have := HK7.out; omega⟩, ⟨by (with_reducible repeat (first | apply Kd.P_alloc | apply Kd.P_drewN | apply Kd.P_drew)); first | exact Kd.P_mono HO_7.out (fun _ hk => hk.1) | exact Kd.P_mono HO_7.out (fun _ hk => (by first | exact hk.1 | exact fun e_ => hk.1 (e_.trans (own_len _ _ _ _ _))))⟩, ⟨by (with_reducible repeat (first | apply Kd.R_alloc | apply Kd.R_drewN | apply Kd.R_drew)); exact HO_13.out⟩, ⟨by repeat (first | (with_reducible first | exact HB.out | apply below_alloc | apply pw_below_drewN | apply below_drew1) | exact HB.out)⟩⟩
                  ·replace c63 := Bool.eq_false_iff.mpr c63
                   subst c63
                   have H1 : (endonymlaw4_TrieAgain.l3 kj60 l2 t425 t444 0) = some true := by rw [if_neg (show ¬ (false = true) by decide)] at H; exact H
                   clear H
                   have H := H1
                   clear H1
                   have H' := Aside0.mk H
                   clear H
                   go_wp2
                   repeat ((refine wp_region_quiet_lit (by kernel_rfl) (by kernel_rfl) ?_; (repeat (first | ((first | refine wpQuiet_load_arr rfl _ rfl rfl hap78 Try.underlying50 (by kernel_rfl) ?_ | refine wpQuiet_load_arr rfl _ rfl rfl hap79 Try.underlying50 (by kernel_rfl) ?_); simp only [Act.put, List.setIfInBounds_toArray, List.set_cons_zero, List.set_cons_succ]) | go_big_quiet_step (fail) | quiet_step (fail))); refine wpQuiet_nil ?_; intro _ hwq_; obtain ⟨nq, hwr_⟩ := hwq_; subst hwr_); try go_wp2_with (fail))
                   go_loopg [23] kj60 (fun kq v23 w' => ∃ (x23_7 : Int), v23 = .int .i64 x23_7 ∧ Aside0 (endonymlaw4_TrieAgain.l3 kq l2 t425 t444 x23_7 = some true) ∧ Aside0 (kq ≤ kj60) ∧ Aside0 (Kd.P k57 57 w' w.heap.size (fun k_ => some k_ ≠ ((.slice Ao60 t444.length co60) : Value).ownBlock) (.pointer Ao21) t425) ∧ Aside0 (Kd.R (Kd.int .u16) 49 w' w.heap.size (fun _ => True) (.slice Ao60 t444.length co60) t444) ∧ Aside0 (Below w.heap.size w w'))
                   case atStart => exact ⟨(0), (by first | rfl | (simp; done) | (simp [*]; done)), H', ⟨Nat.le_refl _⟩, ⟨by (with_reducible repeat (first | apply Kd.P_alloc | apply Kd.P_drewN | apply Kd.P_drew)); first | exact HO_7.out | exact Kd.P_mono HO_7.out (fun _ hk => (by first | exact hk | exact fun e_ => hk (e_.trans (own_len _ _ _ _ _))))⟩, ⟨by (with_reducible repeat (first | apply Kd.R_alloc | apply Kd.R_drewN | apply Kd.R_drew)); exact HO_13.out⟩, ⟨by repeat (first | (with_reducible first | exact HB.out | apply below_alloc | apply pw_below_drewN | apply below_drew1) | exact HB.out)⟩⟩
                   case round =>
                    clear H'
                    (try clear c1); (try clear c2); (try clear p2); (try clear c3); (try clear c4); (try clear p4); (try clear q4); (try clear hx4); (try clear c5); (try clear c6); (try clear p6); (try clear c7); (try clear p7); (try clear c10); (try clear c10b0); (try clear c10b1); (try clear c13); (try clear c15); (try clear c26); (try clear c27); (try clear c27b0); (try clear c27b1); (try clear c28); (try clear c28b0); (try clear c30); (try clear c36); (try clear c43); (try clear c43b0); (try clear c43b1); (try clear p45); (try clear q45); (try clear hx45); (try clear c46); (try clear c47); (try clear c47b0); (try clear c50); (try clear c50b0); (try clear c51); (try clear c51b0); (try clear c52); (try clear c52b0); (try clear c52b1); (try clear c54); (try clear c55); (try clear c55b0); (try clear c56); (try clear c56b0); (try clear c57); (try clear c57b0); (try clear c57b1); (try clear c59); (try clear c59b0); (try clear c59b1); (try clear c62); (try clear c62b0); (try clear c63); (try clear p64); (try clear c70); (try clear c70b0); (try clear c72); (try clear c72b0); (try clear p78); (try clear p79); (try clear hx450_0); (try clear hx451_0); (try clear hx452_0); (try clear hx453_0); (try clear p2); (try clear p4); (try clear p45); (try clear p450); (try clear p451); (try clear p452); (try clear p453); (try clear p6); (try clear p64); (try clear q4); (try clear q45); (try clear q450); (try clear q451); (try clear q452); (try clear q453)
                    obtain ⟨x23_7, rfl, HA, HK7, HO_7, HO_13, HB⟩ := hrel
                    cases gk with
                    | zero => exact absurd HA.out (by simp [endonymlaw4_TrieAgain.l3])
                    | succ k7 =>
                     have H := HA.out
                     clear HA
                     simp only [endonymlaw4_TrieAgain.l3] at H
                     have HC80 := Aside0.mk H
                     clear H
                     go_upto_region 32 with (fail)
                     repeat (go_quiet (fail); go_upto_region 32 with (fail))
                     go_cut [167] (fun v167 wc => ∃ (kq : Nat) (x167_79 : Bool), v167 = .bool x167_79 ∧ Aside0 (endonymlaw4_TrieAgain.j9 kq l2 t425 t444 x23_7 x167_79 = some true) ∧ Aside0 (kq ≤ k7) ∧ Aside0 (Kd.P k57 57 wc w.heap.size (fun k_ => some k_ ≠ ((.slice Ao60 t444.length co60) : Value).ownBlock) (.pointer Ao21) t425) ∧ Aside0 (Kd.R (Kd.int .u16) 49 wc w.heap.size (fun _ => True) (.slice Ao60 t444.length co60) t444) ∧ Aside0 (Below w.heap.size w wc))
                     case first =>
                      have H := HC80.out
                      clear HC80
                      by_cases c81 : x23_7 < (l2.length : Int)
                      ·rw [if_pos c81] at H
                       have c81b0 : decide (x23_7 < (l2.length : Int)) = true := decide_eq_true c81
                       clear c81
                       (first | rw [c81b0] | (simp only [i64_w, i32_w]; rw [c81b0]) | skip)
                       as_aux_lemma =>
                        have H' := Aside0.mk H
                        clear H
                        go_wp2
                        repeat ((refine wp_region_quiet_lit (by kernel_rfl) (by kernel_rfl) ?_; (repeat (first | ((first | refine wpQuiet_load_arr rfl _ rfl rfl hap78 Try.underlying50 (by kernel_rfl) ?_ | refine wpQuiet_load_arr rfl _ rfl rfl hap79 Try.underlying50 (by kernel_rfl) ?_); simp only [Act.put, List.setIfInBounds_toArray, List.set_cons_zero, List.set_cons_succ]) | go_big_quiet_step (fail) | quiet_step (fail))); refine wpQuiet_nil ?_; intro _ hwq_; obtain ⟨nq, hwr_⟩ := hwq_; subst hwr_); try go_wp2_with (fail))
                        go_meet
                        case rel => exact ⟨_, (decide (x23_7 < 60)), (by first | rfl | (simp; done) | (simp [*]; done)), H', ⟨by have := HJ5.out; have := HJ19.out; have := HJ38.out; have := HK4.out; have := HK5.out; have := HJ60.out; have := HK7.out; first | omega | exact Nat.le_refl _⟩, ⟨by (with_reducible repeat (first | apply Kd.P_alloc | apply Kd.P_drewN | apply Kd.P_drew)); first | exact HO_7.out | exact Kd.P_mono HO_7.out (fun _ hk => (by first | exact hk | exact fun e_ => hk (e_.trans (own_len _ _ _ _ _))))⟩, ⟨by (with_reducible repeat (first | apply Kd.R_alloc | apply Kd.R_drewN | apply Kd.R_drew)); exact HO_13.out⟩, ⟨by repeat (first | (with_reducible first | exact HB.out | apply below_alloc | apply pw_below_drewN | apply below_drew1) | exact HB.out)⟩⟩
                      ·rw [if_neg c81] at H
                       have c81b0 : decide (x23_7 < (l2.length : Int)) = false := decide_eq_false c81
                       clear c81
                       (first | rw [c81b0] | (simp only [i64_w, i32_w]; rw [c81b0]) | skip)
                       as_aux_lemma =>
                        have H' := Aside0.mk H
                        clear H
                        go_wp2
                        repeat ((refine wp_region_quiet_lit (by kernel_rfl) (by kernel_rfl) ?_; (repeat (first | ((first | refine wpQuiet_load_arr rfl _ rfl rfl hap78 Try.underlying50 (by kernel_rfl) ?_ | refine wpQuiet_load_arr rfl _ rfl rfl hap79 Try.underlying50 (by kernel_rfl) ?_); simp only [Act.put, List.setIfInBounds_toArray, List.set_cons_zero, List.set_cons_succ]) | go_big_quiet_step (fail) | quiet_step (fail))); refine wpQuiet_nil ?_; intro _ hwq_; obtain ⟨nq, hwr_⟩ := hwq_; subst hwr_); try go_wp2_with (fail))
                        go_meet
                        case rel => exact ⟨_, (false), (by first | rfl | (simp; done) | (simp [*]; done)), H', ⟨by have := HJ5.out; have := HJ19.out; have := HJ38.out; have := HK4.out; have := HK5.out; have := HJ60.out; have := HK7.out; first | omega | exact Nat.le_refl _⟩, ⟨by (with_reducible repeat (first | apply Kd.P_alloc | apply Kd.P_drewN | apply Kd.P_drew)); first | exact HO_7.out | exact Kd.P_mono HO_7.out (fun _ hk => (by first | exact hk | exact fun e_ => hk (e_.trans (own_len _ _ _ _ _))))⟩, ⟨by (with_reducible repeat (first | apply Kd.R_alloc | apply Kd.R_drewN | apply Kd.R_drew)); exact HO_13.out⟩, ⟨by repeat (first | (with_reducible first | exact HB.out | apply below_alloc | apply pw_below_drewN | apply below_drew1) | exact HB.out)⟩⟩
                     case rest =>
                      clear HC80
                      (try clear c1); (try clear c2); (try clear p2); (try clear c3); (try clear c4); (try clear p4); (try clear q4); (try clear hx4); (try clear c5); (try clear c6); (try clear p6); (try clear c7); (try clear p7); (try clear c8); (try clear c10); (try clear c10b0); (try clear c10b1); (try clear c13); (try clear c15); (try clear c26); (try clear c27); (try clear c27b0); (try clear c27b1); (try clear c28); (try clear c28b0); (try clear c30); (try clear c36); (try clear c43); (try clear c43b0); (try clear c43b1); (try clear p45); (try clear q45); (try clear hx45); (try clear c46); (try clear c47); (try clear c47b0); (try clear c50); (try clear c50b0); (try clear c51); (try clear c51b0); (try clear c52); (try clear c52b0); (try clear c52b1); (try clear c54); (try clear c55); (try clear c55b0); (try clear c56); (try clear c56b0); (try clear c57); (try clear c57b0); (try clear c57b1); (try clear c59); (try clear c59b0); (try clear c59b1); (try clear c62); (try clear c62b0); (try clear c63); (try clear p64); (try clear c70); (try clear c70b0); (try clear c72); (try clear c72b0); (try clear p78); (try clear p79); (try clear c81); (try clear c81b0); (try clear hx450_0); (try clear hx451_0); (try clear hx452_0); (try clear hx453_0); (try clear p2); (try clear p4); (try clear p45); (try clear p450); (try clear p451); (try clear p452); (try clear p453); (try clear p6); (try clear p64); (try clear p7); (try clear p78); (try clear p79); (try clear q4); (try clear q45); (try clear q450); (try clear q451); (try clear q452); (try clear q453)
                      obtain ⟨kq, x167_79, rfl, HA, HJ79, HO_7, HO_13, HB⟩ := hcut
                      cases kq with
                      | zero => exact absurd HA.out (by simp [endonymlaw4_TrieAgain.j9])
                      | succ kj79 =>
                       have H := HA.out
                       clear HA
                       simp only [endonymlaw4_TrieAgain.j9] at H
                       by_cases c82 : x167_79 = true
                       ·subst c82
                        have H1 : (if 0 ≤ x23_7 then (if x23_7 < (l2.length : Int) then (if 0 ≤ (wrap64 (Int.tdiv (Int.tmod (Go.bits .and .i64 (rd l2 x23_7) 2097151) 1114112) 64)) then (if (wrap64 (Int.tdiv (Int.tmod (Go.bits .and .i64 (rd l2 x23_7) 2097151) 1114112) 64)) < (t444.length : Int) then ((trie_Trie_Block.f t425 (wrap64 (rd t444 (wrap64 (Int.tdiv (Int.tmod (Go.bits .and .i64 (rd l2 x23_7) 2097151) 1114112) 64))))).bind fun bt471 => (if bt471.2 = true then (if 0 ≤ (Int.tmod (Int.tmod (Go.bits .and .i64 (rd l2 x23_7) 2097151) 1114112) 64) then (if (Int.tmod (Int.tmod (Go.bits .and .i64 (rd l2 x23_7) 2097151) 1114112) 64) < 64 then ((trie_Trie_Get.f t425 (Int.tmod (Go.bits .and .i64 (rd l2 x23_7) 2097151) 1114112)).bind fun t479 => (if (wrap64 (rd (arrPut 64 (List.replicate 64 0) bt471.1) (Int.tmod (Int.tmod (Go.bits .and .i64 (rd l2 x23_7) 2097151) 1114112) 64))) = t479 then (endonymlaw4_TrieAgain.l3 kj79 l2 t425 t444 (wrap64 (x23_7 + 1))) else (some false))) else (none)) else (none)) else (some false))) else (none)) else (none)) else (none)) else (none)) = some true := by rw [if_pos rfl] at H; exact H
                        clear H
                        have H := H1
                        clear H1
                        by_cases c83 : 0 ≤ x23_7
                        ·rw [if_pos c83] at H
                         have c83b0 : decide (0 ≤ x23_7) = true := decide_eq_true c83
                         clear c83
                         by_cases c84 : x23_7 < (l2.length : Int)
                         ·rw [if_pos c84] at H
                          have c84b0 : decide (x23_7 < (l2.length : Int)) = true := decide_eq_true c84
                          clear c84
                          obtain ⟨ji85, hji85⟩ : ∃ j_ : Int, (wrap64 (Int.tdiv (Int.tmod (Go.bits .and .i64 (rd l2 x23_7) 2097151) 1114112) 64)) = j_ := ⟨_, rfl⟩
                          replace H : (if 0 ≤ (ji85) then (if (ji85) < (t444.length : Int) then ((trie_Trie_Block.f t425 (wrap64 (rd t444 (ji85)))).bind fun bt471 => (if bt471.2 = true then (if 0 ≤ (Int.tmod (Int.tmod (Go.bits .and .i64 (rd l2 x23_7) 2097151) 1114112) 64) then (if (Int.tmod (Int.tmod (Go.bits .and .i64 (rd l2 x23_7) 2097151) 1114112) 64) < 64 then ((trie_Trie_Get.f t425 (Int.tmod (Go.bits .and .i64 (rd l2 x23_7) 2097151) 1114112)).bind fun t479 => (if (wrap64 (rd (arrPut 64 (List.replicate 64 0) bt471.1) (Int.tmod (Int.tmod (Go.bits .and .i64 (rd l2 x23_7) 2097151) 1114112) 64))) = t479 then (endonymlaw4_TrieAgain.l3 kj79 l2 t425 t444 (wrap64 (x23_7 + 1))) else (some false))) else (none)) else (none)) else (some false))) else (none)) else (none)) = some true := by first | (rw [hji85] at H; exact H) | (simp only [hji85] at H ⊢; exact H)
                          have hji85w : (IntKind.i64.wrap (Int.tdiv (Int.tmod (Go.bits .and .i64 (rd l2 x23_7) 2097151) 1114112) 64)) = ji85 := (i64_w _).trans hji85
                          by_cases c86 : 0 ≤ (ji85)
                          ·rw [if_pos c86] at H
                           have c86b0 : decide (0 ≤ (ji85)) = true := decide_eq_true c86
                           clear c86
                           by_cases c87 : (ji85) < (t444.length : Int)
                           ·rw [if_pos c87] at H
                            have c87b0 : decide ((ji85) < (t444.length : Int)) = true := decide_eq_true c87
                            clear c87
                            replace H := Option.bind_eq_some_iff.mp H
                            obtain ⟨⟨t471, t472⟩, A880, H⟩ := H
                            replace H : (if t472 = true then (if 0 ≤ (Int.tmod (Int.tmod (Go.bits .and .i64 (rd l2 x23_7) 2097151) 1114112) 64) then (if (Int.tmod (Int.tmod (Go.bits .and .i64 (rd l2 x23_7) 2097151) 1114112) 64) < 64 then ((trie_Trie_Get.f t425 (Int.tmod (Go.bits .and .i64 (rd l2 x23_7) 2097151) 1114112)).bind fun t479 => (if (wrap64 (rd (arrPut 64 (List.replicate 64 0) t471) (Int.tmod (Int.tmod (Go.bits .and .i64 (rd l2 x23_7) 2097151) 1114112) 64))) = t479 then (endonymlaw4_TrieAgain.l3 kj79 l2 t425 t444 (wrap64 (x23_7 + 1))) else (some false))) else (none)) else (none)) else (some false)) = some true := H
                            have A88 := Aside0.mk A880
                            clear A880
                            obtain ⟨y473, hy473⟩ : ∃ y_ : List Int, y_ = (List.replicate 64 0) := ⟨_, rfl⟩
                            replace H : (if t472 = true then (if 0 ≤ (Int.tmod (Int.tmod (Go.bits .and .i64 (rd l2 x23_7) 2097151) 1114112) 64) then (if (Int.tmod (Int.tmod (Go.bits .and .i64 (rd l2 x23_7) 2097151) 1114112) 64) < 64 then ((trie_Trie_Get.f t425 (Int.tmod (Go.bits .and .i64 (rd l2 x23_7) 2097151) 1114112)).bind fun t479 => (if (wrap64 (rd (arrPut 64 y473 t471) (Int.tmod (Int.tmod (Go.bits .and .i64 (rd l2 x23_7) 2097151) 1114112) 64))) = t479 then (endonymlaw4_TrieAgain.l3 kj79 l2 t425 t444 (wrap64 (x23_7 + 1))) else (some false))) else (none)) else (none)) else (some false)) = some true := by first | (rw [hy473]; with_reducible exact H) | (have H2_ := (Option.bind_some _ _).symm.trans H; rw [hy473]; with_reducible exact H2_) | (have H2_ := (Option.bind_some _ _).symm.trans H; with_reducible exact H2_) | with_reducible exact H | (rw [hy473]; exact H) | exact H
                            have Ny473 := Aside0.mk hy473
                            clear hy473
                            obtain ⟨y477, hy477⟩ : ∃ y_ : List Int, y_ = (arrPut 64 y473 t471) := ⟨_, rfl⟩
                            replace H : (if t472 = true then (if 0 ≤ (Int.tmod (Int.tmod (Go.bits .and .i64 (rd l2 x23_7) 2097151) 1114112) 64) then (if (Int.tmod (Int.tmod (Go.bits .and .i64 (rd l2 x23_7) 2097151) 1114112) 64) < 64 then ((trie_Trie_Get.f t425 (Int.tmod (Go.bits .and .i64 (rd l2 x23_7) 2097151) 1114112)).bind fun t479 => (if (wrap64 (rd y477 (Int.tmod (Int.tmod (Go.bits .and .i64 (rd l2 x23_7) 2097151) 1114112) 64))) = t479 then (endonymlaw4_TrieAgain.l3 kj79 l2 t425 t444 (wrap64 (x23_7 + 1))) else (some false))) else (none)) else (none)) else (some false)) = some true := by first | (rw [hy477]; with_reducible exact H) | (have H2_ := (Option.bind_some _ _).symm.trans H; rw [hy477]; with_reducible exact H2_) | (have H2_ := (Option.bind_some _ _).symm.trans H; with_reducible exact H2_) | with_reducible exact H | (rw [hy477]; exact H) | exact H
                            have Ny477 := Aside0.mk hy477
                            clear hy477
                            by_cases c89 : t472 = true
                            ·subst c89
                             have H1 : (if 0 ≤ (Int.tmod (Int.tmod (Go.bits .and .i64 (rd l2 x23_7) 2097151) 1114112) 64) then (if (Int.tmod (Int.tmod (Go.bits .and .i64 (rd l2 x23_7) 2097151) 1114112) 64) < 64 then ((trie_Trie_Get.f t425 (Int.tmod (Go.bits .and .i64 (rd l2 x23_7) 2097151) 1114112)).bind fun t479 => (if (wrap64 (rd y477 (Int.tmod (Int.tmod (Go.bits .and .i64 (rd l2 x23_7) 2097151) 1114112) 64))) = t479 then (endonymlaw4_TrieAgain.l3 kj79 l2 t425 t444 (wrap64 (x23_7 + 1))) else (some false))) else (none)) else (none)) = some true := by rw [if_pos rfl] at H; exact H
                             clear H
                             have H := H1
                             clear H1
                             obtain ⟨ji90, hji90⟩ : ∃ j_ : Int, (Int.tmod (Int.tmod (Go.bits .and .i64 (rd l2 x23_7) 2097151) 1114112) 64) = j_ := ⟨_, rfl⟩
                             replace H : (if 0 ≤ (ji90) then (if (ji90) < 64 then ((trie_Trie_Get.f t425 (Int.tmod (Go.bits .and .i64 (rd l2 x23_7) 2097151) 1114112)).bind fun t479 => (if (wrap64 (rd y477 (ji90))) = t479 then (endonymlaw4_TrieAgain.l3 kj79 l2 t425 t444 (wrap64 (x23_7 + 1))) else (some false))) else (none)) else (none)) = some true := by first | (rw [hji90] at H; exact H) | (simp only [hji90] at H ⊢; exact H)
                             (try rw [hji90] at A88)
                             by_cases c91 : 0 ≤ (ji90)
                             ·rw [if_pos c91] at H
                              have c91b0 : decide (0 ≤ (ji90)) = true := decide_eq_true c91
                              clear c91
                              by_cases c92 : (ji90) < 64
                              ·rw [if_pos c92] at H
                               have c92b0 : decide ((ji90) < 64) = true := decide_eq_true c92
                               clear c92
                               replace H := Option.bind_eq_some_iff.mp H
                               obtain ⟨t479, A930, H⟩ := H
                               replace H : (if (wrap64 (rd y477 (ji90))) = t479 then (endonymlaw4_TrieAgain.l3 kj79 l2 t425 t444 (wrap64 (x23_7 + 1))) else (some false)) = some true := H
                               have A93 := Aside0.mk A930
                               clear A930
                               by_cases c94 : (wrap64 (rd y477 (ji90))) = t479
                               ·rw [if_pos c94] at H
                                have c94b0 : ((wrap64 (rd y477 (ji90))) == t479) = true := beq_iff_eq.mpr c94
                                have c94b1 : ((wrap64 (rd y477 (ji90))) != t479) = false := bne_eq_false_iff_eq.mpr c94
                                clear c94
                                as_aux_lemma =>
                                 have H' := Aside0.mk H
                                 clear H
                                 have p469 : 0 ≤ (x23_7 : Int) := of_decide_eq_true (by first | (with_reducible assumption) | assumption)
                                 have q469 : x23_7 < (l2.length : Int) := of_decide_eq_true (by first | (with_reducible assumption) | assumption)
                                 obtain ⟨ad469, e469, hx469_0⟩ := Kd.at_int HR2.out x23_7 p469 q469
                                 cases e469
                                 replace hx469_0 := (HB.out.cell (World.block_lt_of_cell? w _ hx469_0)).trans hx469_0
                                 replace p469 := eq_true p469
                                 replace q469 := eq_true q469
                                 have p470 : 0 ≤ ((ji85) : Int) := of_decide_eq_true (by first | (with_reducible assumption) | assumption)
                                 have q470 : (ji85) < (t444.length : Int) := of_decide_eq_true (by first | (with_reducible assumption) | assumption)
                                 obtain ⟨ad470, e470, hx470_0⟩ := Kd.at_int (Kd.R_reads' HO_13.out).2.2 (ji85) p470 q470
                                 cases e470
                                 replace p470 := eq_true p470
                                 replace q470 := eq_true q470
                                 go_wp2_with (first | (go_at_call 22; (with_reducible refine (trie_Trie_Block.calls _ t425 (wrap64 (rd t444 (ji85))) t471 true _ ?side1 A88.out).mono ?_); (case side1 => repeat (first | exact (Kd.P_reads' HO_7.out).2.2 | (with_reducible refine Kd.PC_alloc ?_ _) | (with_reducible refine Kd.PC_drewN ?_ _) | (with_reducible refine Kd.PC_drew ?_))); rintro e w95 ⟨rfl, hb⟩; have n0_ := Aside0.mk (Kd.P_below (by (with_reducible repeat (first | apply Kd.P_alloc | apply Kd.P_drewN | apply Kd.P_drew)); first | exact HO_7.out | exact Kd.P_mono HO_7.out (fun _ hk => (by first | exact hk | exact fun e_ => hk (e_.trans (own_len _ _ _ _ _))))) hb); have n1_ := Aside0.mk (Kd.R_below (by (with_reducible repeat (first | apply Kd.R_alloc | apply Kd.R_drewN | apply Kd.R_drew)); exact HO_13.out) hb); have n2_ := Aside0.mk (below_step (by repeat (first | (with_reducible first | exact HB.out | apply below_alloc | apply pw_below_drewN | apply below_drew1) | exact HB.out)) hb); clear HO_7; clear HO_13; clear HB; have HO_7 := n0_; have HO_13 := n1_; have HB := n2_; clear n0_ n1_ n2_; (try clear hb); (try clear hb2); (try clear hk); (try clear hi)) | ((with_reducible refine gate_dst (N := 25) rfl ?_); (try (refine gate_guard (by rfl) ?_; dsimp only)); refine arrvar_event (k := .u16) (n := 64) (t := 50) rfl (N := 25) rfl rfl (by kernel_rfl) (by decide) (Below.refl _ _) ?_; intro goa476 w96 ho97 hb hg_ gb_; have GBa476 := Aside0.mk (Nat.le_trans (below_size (by repeat (first | (with_reducible first | exact HB.out | apply below_alloc | apply pw_below_drewN | apply below_drew1) | exact HB.out))) gb_); clear hg_ gb_; (first | rw [← Ny473.out] at ho97 | (simp only [Int.reduceToNat] at ho97; rw [← Ny473.out] at ho97)); have n0_ := Aside0.mk (Kd.P_elder' (by (with_reducible repeat (first | apply Kd.P_alloc | apply Kd.P_drewN | apply Kd.P_drew)); first | exact HO_7.out | exact Kd.P_mono HO_7.out (fun _ hk => (by first | exact hk | exact fun e_ => hk (e_.trans (own_len _ _ _ _ _))))) (Kd.R_base ho97) hb); have n1_ := Aside0.mk (Kd.R_below (by (with_reducible repeat (first | apply Kd.R_alloc | apply Kd.R_drewN | apply Kd.R_drew)); exact HO_13.out) hb); have n2_ := Aside0.mk (Kd.R_lower ho97 (below_size (by repeat (first | (with_reducible first | exact HB.out | apply below_alloc | apply pw_below_drewN | apply below_drew1) | exact HB.out)))); have n3_ := Aside0.mk (below_step (by repeat (first | (with_reducible first | exact HB.out | apply below_alloc | apply pw_below_drewN | apply below_drew1) | exact HB.out)) hb); clear HO_7; clear HO_13; clear HB; have HO_7 := n0_; have HO_13 := n1_; have HO475 := n2_; have HB := n3_; clear n0_ n1_ n2_ n3_; clear hb ho97) | ((with_reducible refine gate_store (t := 50) (p := 25) rfl ?_); (try (rw [drewN_self w96]; generalize hq_ : World.drewN w96 _ = w96; have n0_ := Aside0.mk (Kd.P_at hq_ HO_7.out); have n1_ := Aside0.mk (Kd.R_at hq_ HO_13.out); have n2_ := Aside0.mk (Kd.R_at hq_ HO475.out); have n3_ := Aside0.mk (below_at hq_ HB.out); clear hq_ HO_7 HO_13 HO475 HB; have HO_7 := n0_; have HO_13 := n1_; have HO475 := n2_; have HB := n3_; clear n0_ n1_ n2_ n3_)); refine arrput_event (k := .u16) (n := 64) (ys := t471) rfl rfl rfl rfl rfl (by kernel_rfl) HO475.out ?_; intro w99 hp0_ hg hbl_; have hp_ : Kd.R (Kd.int .u16) 50 w99 w.heap.size (fun _ => True) (.slice (some ⟨goa476, 0, none⟩) 64 64) y477 := (by rw [Ny477.out]; exact hp0_); have n0_ := Aside0.mk (Kd.P_after (v := (.slice (some ⟨goa476, 0, none⟩) 64 64)) (v1 := (.slice (some ⟨goa476, 0, none⟩) 64 64)) (ok := (fun k_ => some k_ ≠ (.slice (some ad470) t444.length co60 : Value).ownBlock)) (by (with_reducible repeat (first | apply Kd.P_alloc | apply Kd.P_drewN | apply Kd.P_drew)); first | exact HO_7.out | exact Kd.P_mono HO_7.out (fun _ hk => ⟨(by first | exact hk.1 | exact fun e_ => hk.1 (e_.trans (own_len _ _ _ _ _))), (by first | exact hk.2 | exact fun e_ => hk.2 (e_.trans (own_len _ _ _ _ _)))⟩)) hg (.inl rfl)); have n1_ := Aside0.mk (Kd.R_over' (v := (.slice (some ⟨goa476, 0, none⟩) 64 64)) (by (with_reducible repeat (first | apply Kd.R_alloc | apply Kd.R_drewN | apply Kd.R_drew)); exact HO_13.out) (Kd.R_typed HO475.out) (by decide) hg); have n2_ := Aside0.mk (hp_); have n3_ := Aside0.mk (hbl_ _ _ HB.out GBa476.out); clear HO_7; clear HO_13; clear HO475; clear HB; have HO_7 := n0_; have HO_13 := n1_; have HO475 := n2_; have HB := n3_; clear n0_ n1_ n2_ n3_; clear hg hp_ hp0_ hbl_; have p478 : 0 ≤ ((ji90) : Int) := of_decide_eq_true (by first | (with_reducible assumption) | assumption); have q478 : (ji90) < (y477.length : Int) := (by have h_ : ((ji90) : Int) < (64 : Int) := of_decide_eq_true (by first | (with_reducible assumption) | assumption); have e_ := (Kd.R_reads' HO475.out).1; omega); have ql478 : (((ji90) : Int) < (64 : Int)) = True := eq_true (of_decide_eq_true (by first | (with_reducible assumption) | assumption)); obtain ⟨ad478, e478, hx478_0⟩ := Kd.at_int (Kd.R_reads' HO475.out).2.2 (ji90) p478 q478; obtain rfl : (⟨goa476, 0, none⟩ : Addr) = ad478 := (by injection e478); (first | simp only [add_plain] at hx478_0 | simp only [add_at] at hx478_0 | simp only [Addr.add, Nat.zero_add] at hx478_0 | skip); replace p478 := eq_true p478; replace q478 := eq_true q478) | (go_at_call 13; (with_reducible refine (trie_Trie_Get.calls _ t425 (Int.tmod (Go.bits .and .i64 (rd l2 x23_7) 2097151) 1114112) t479 _ ?side1 A93.out).mono ?_); (case side1 => repeat (first | exact (Kd.P_reads' HO_7.out).2.2 | (with_reducible refine Kd.PC_alloc ?_ _) | (with_reducible refine Kd.PC_drewN ?_ _) | (with_reducible refine Kd.PC_drew ?_))); rintro e w' ⟨rfl, ⟨nd, rfl⟩⟩; (try first | exact ⟨rfl, _, World.drewN_drewN _ _ _⟩ | exact ⟨rfl, _, Eq.trans (World.drewN_drewN _ _ _) (congrArg (World.drewN _) (Nat.add_assoc _ _ _))⟩)))
                                 repeat ((refine wp_region_quiet_lit (by kernel_rfl) (by kernel_rfl) ?_; (repeat (first | ((first | refine wpQuiet_load_arr rfl _ rfl rfl hap78 Try.underlying50 (by kernel_rfl) ?_ | refine wpQuiet_load_arr rfl _ rfl rfl hap79 Try.underlying50 (by kernel_rfl) ?_); simp only [Act.put, List.setIfInBounds_toArray, List.set_cons_zero, List.set_cons_succ]) | go_big_quiet_step (first | (go_at_call 13; (with_reducible refine (trie_Trie_Get.calls _ t425 (Int.tmod (Go.bits .and .i64 (rd l2 x23_7) 2097151) 1114112) t479 _ ?side1 A93.out).mono ?_); (case side1 => repeat (first | exact (Kd.P_reads' HO_7.out).2.2 | (with_reducible refine Kd.PC_alloc ?_ _) | (with_reducible refine Kd.PC_drewN ?_ _) | (with_reducible refine Kd.PC_drew ?_))); rintro e w' ⟨rfl, ⟨nd, rfl⟩⟩; (try first | exact ⟨rfl, _, World.drewN_drewN _ _ _⟩ | exact ⟨rfl, _, Eq.trans (World.drewN_drewN _ _ _) (congrArg (World.drewN _) (Nat.add_assoc _ _ _))⟩))) | quiet_step (fail))); refine wpQuiet_nil ?_; intro _ hwq_; obtain ⟨nq, hwr_⟩ := hwq_; subst hwr_); try go_wp2_with (first | (go_at_call 22; (with_reducible refine (trie_Trie_Block.calls _ t425 (wrap64 (rd t444 (ji85))) t471 true _ ?side1 A88.out).mono ?_); (case side1 => repeat (first | exact (Kd.P_reads' HO_7.out).2.2 | (with_reducible refine Kd.PC_alloc ?_ _) | (with_reducible refine Kd.PC_drewN ?_ _) | (with_reducible refine Kd.PC_drew ?_))); rintro e w95 ⟨rfl, hb⟩; have n0_ := Aside0.mk (Kd.P_below (by (with_reducible repeat (first | apply Kd.P_alloc | apply Kd.P_drewN | apply Kd.P_drew)); first | exact HO_7.out | exact Kd.P_mono HO_7.out (fun _ hk => (by first | exact hk | exact fun e_ => hk (e_.trans (own_len _ _ _ _ _))))) hb); have n1_ := Aside0.mk (Kd.R_below (by (with_reducible repeat (first | apply Kd.R_alloc | apply Kd.R_drewN | apply Kd.R_drew)); exact HO_13.out) hb); have n2_ := Aside0.mk (below_step (by repeat (first | (with_reducible first | exact HB.out | apply below_alloc | apply pw_below_drewN | apply below_drew1) | exact HB.out)) hb); clear HO_7; clear HO_13; clear HB; have HO_7 := n0_; have HO_13 := n1_; have HB := n2_; clear n0_ n1_ n2_; (try clear hb); (try clear hb2); (try clear hk); (try clear hi)) | ((with_reducible refine gate_dst (N := 25) rfl ?_); (try (refine gate_guard (by rfl) ?_; dsimp only)); refine arrvar_event (k := .u16) (n := 64) (t := 50) rfl (N := 25) rfl rfl (by kernel_rfl) (by decide) (Below.refl _ _) ?_; intro goa476 w96 ho97 hb hg_ gb_; have GBa476 := Aside0.mk (Nat.le_trans (below_size (by repeat (first | (with_reducible first | exact HB.out | apply below_alloc | apply pw_below_drewN | apply below_drew1) | exact HB.out))) gb_); clear hg_ gb_; (first | rw [← Ny473.out] at ho97 | (simp only [Int.reduceToNat] at ho97; rw [← Ny473.out] at ho97)); have n0_ := Aside0.mk (Kd.P_elder' (by (with_reducible repeat (first | apply Kd.P_alloc | apply Kd.P_drewN | apply Kd.P_drew)); first | exact HO_7.out | exact Kd.P_mono HO_7.out (fun _ hk => (by first | exact hk | exact fun e_ => hk (e_.trans (own_len _ _ _ _ _))))) (Kd.R_base ho97) hb); have n1_ := Aside0.mk (Kd.R_below (by (with_reducible repeat (first | apply Kd.R_alloc | apply Kd.R_drewN | apply Kd.R_drew)); exact HO_13.out) hb); have n2_ := Aside0.mk (Kd.R_lower ho97 (below_size (by repeat (first | (with_reducible first | exact HB.out | apply below_alloc | apply pw_below_drewN | apply below_drew1) | exact HB.out)))); have n3_ := Aside0.mk (below_step (by repeat (first | (with_reducible first | exact HB.out | apply below_alloc | apply pw_below_drewN | apply below_drew1) | exact HB.out)) hb); clear HO_7; clear HO_13; clear HB; have HO_7 := n0_; have HO_13 := n1_; have HO475 := n2_; have HB := n3_; clear n0_ n1_ n2_ n3_; clear hb ho97) | ((with_reducible refine gate_store (t := 50) (p := 25) rfl ?_); (try (rw [drewN_self w96]; generalize hq_ : World.drewN w96 _ = w96; have n0_ := Aside0.mk (Kd.P_at hq_ HO_7.out); have n1_ := Aside0.mk (Kd.R_at hq_ HO_13.out); have n2_ := Aside0.mk (Kd.R_at hq_ HO475.out); have n3_ := Aside0.mk (below_at hq_ HB.out); clear hq_ HO_7 HO_13 HO475 HB; have HO_7 := n0_; have HO_13 := n1_; have HO475 := n2_; have HB := n3_; clear n0_ n1_ n2_ n3_)); refine arrput_event (k := .u16) (n := 64) (ys := t471) rfl rfl rfl rfl rfl (by kernel_rfl) HO475.out ?_; intro w99 hp0_ hg hbl_; have hp_ : Kd.R (Kd.int .u16) 50 w99 w.heap.size (fun _ => True) (.slice (some ⟨goa476, 0, none⟩) 64 64) y477 := (by rw [Ny477.out]; exact hp0_); have n0_ := Aside0.mk (Kd.P_after (v := (.slice (some ⟨goa476, 0, none⟩) 64 64)) (v1 := (.slice (some ⟨goa476, 0, none⟩) 64 64)) (ok := (fun k_ => some k_ ≠ (.slice (some ad470) t444.length co60 : Value).ownBlock)) (by (with_reducible repeat (first | apply Kd.P_alloc | apply Kd.P_drewN | apply Kd.P_drew)); first | exact HO_7.out | exact Kd.P_mono HO_7.out (fun _ hk => ⟨(by first | exact hk.1 | exact fun e_ => hk.1 (e_.trans (own_len _ _ _ _ _))), (by first | exact hk.2 | exact fun e_ => hk.2 (e_.trans (own_len _ _ _ _ _)))⟩)) hg (.inl rfl)); have n1_ := Aside0.mk (Kd.R_over' (v := (.slice (some ⟨goa476, 0, none⟩) 64 64)) (by (with_reducible repeat (first | apply Kd.R_alloc | apply Kd.R_drewN | apply Kd.R_drew)); exact HO_13.out) (Kd.R_typed HO475.out) (by decide) hg); have n2_ := Aside0.mk (hp_); have n3_ := Aside0.mk (hbl_ _ _ HB.out GBa476.out); clear HO_7; clear HO_13; clear HO475; clear HB; have HO_7 := n0_; have HO_13 := n1_; have HO475 := n2_; have HB := n3_; clear n0_ n1_ n2_ n3_; clear hg hp_ hp0_ hbl_; have p478 : 0 ≤ ((ji90) : Int) := of_decide_eq_true (by first | (with_reducible assumption) | assumption); have q478 : (ji90) < (y477.length : Int) := (by have h_ : ((ji90) : Int) < (64 : Int) := of_decide_eq_true (by first | (with_reducible assumption) | assumption); have e_ := (Kd.R_reads' HO475.out).1; omega); have ql478 : (((ji90) : Int) < (64 : Int)) = True := eq_true (of_decide_eq_true (by first | (with_reducible assumption) | assumption)); obtain ⟨ad478, e478, hx478_0⟩ := Kd.at_int (Kd.R_reads' HO475.out).2.2 (ji90) p478 q478; obtain rfl : (⟨goa476, 0, none⟩ : Addr) = ad478 := (by injection e478); (first | simp only [add_plain] at hx478_0 | simp only [add_at] at hx478_0 | simp only [Addr.add, Nat.zero_add] at hx478_0 | skip); replace p478 := eq_true p478; replace q478 := eq_true q478) | (go_at_call 13; (with_reducible refine (trie_Trie_Get.calls _ t425 (Int.tmod (Go.bits .and .i64 (rd l2 x23_7) 2097151) 1114112) t479 _ ?side1 A93.out).mono ?_); (case side1 => repeat (first | exact (Kd.P_reads' HO_7.out).2.2 | (with_reducible refine Kd.PC_alloc ?_ _) | (with_reducible refine Kd.PC_drewN ?_ _) | (with_reducible refine Kd.PC_drew ?_))); rintro e w' ⟨rfl, ⟨nd, rfl⟩⟩; (try first | exact ⟨rfl, _, World.drewN_drewN _ _ _⟩ | exact ⟨rfl, _, Eq.trans (World.drewN_drewN _ _ _) (congrArg (World.drewN _) (Nat.add_assoc _ _ _))⟩))))
                                 go_roundg kj79
                                 case measure => have := HJ5.out; have := HJ19.out; have := HJ38.out; have := HK4.out; have := HK5.out; have := HJ60.out; have := HK7.out; have := HJ79.out; omega
                                 case rel => exact ⟨(wrap64 (x23_7 + 1)), (by first | rfl | (simp; done) | (simp [*]; done)), H', ⟨by have := HJ5.out; have := HJ19.out; have := HJ38.out; have := HK4.out; have := HK5.out; have := HJ60.out; have := HK7.out; have := HJ79.out; omega⟩, ⟨by (with_reducible repeat (first | apply Kd.P_alloc | apply Kd.P_drewN | apply Kd.P_drew)); first | exact Kd.P_mono HO_7.out (fun _ hk => hk.1) | exact Kd.P_mono HO_7.out (fun _ hk => (by first | exact hk.1 | exact fun e_ => hk.1 (e_.trans (own_len _ _ _ _ _))))⟩, ⟨by (with_reducible repeat (first | apply Kd.R_alloc | apply Kd.R_drewN | apply Kd.R_drew)); exact HO_13.out⟩, ⟨by repeat (first | (with_reducible first | exact HB.out | apply below_alloc | apply pw_below_drewN | apply below_drew1) | exact HB.out)⟩⟩
                               ·rw [if_neg c94] at H
                                have c94b0 : ((wrap64 (rd y477 (ji90))) == t479) = false := beq_eq_false_iff_ne.mpr c94
                                have c94b1 : ((wrap64 (rd y477 (ji90))) != t479) = true := bne_iff_ne.mpr c94
                                exact absurd H (by simp)
                              ·rw [if_neg c92] at H
                               exact absurd H (by simp)
                             ·rw [if_neg c91] at H
                              exact absurd H (by simp)
                            ·replace c89 := Bool.eq_false_iff.mpr c89
                             subst c89
                             have H1 : (some false) = some true := by rw [if_neg (show ¬ (false = true) by decide)] at H; exact H
                             clear H
                             have H := H1
                             clear H1
                             exact absurd H (by simp)
                           ·rw [if_neg c87] at H
                            exact absurd H (by simp)
                          ·rw [if_neg c86] at H
                           exact absurd H (by simp)
                         ·rw [if_neg c84] at H
                          exact absurd H (by simp)
                        ·rw [if_neg c83] at H
                         exact absurd H (by simp)
                       ·replace c82 := Bool.eq_false_iff.mpr c82
                        subst c82
                        have H1 : (some true) = some true := by rw [if_neg (show ¬ (false = true) by decide)] at H; first | done | exact H
                        clear H
                        have H := H1
                        clear H1
                        as_aux_lemma =>
                         have hR_ := Option.some.inj H
                         go_wp2
                         repeat ((refine wp_region_quiet_lit (by kernel_rfl) (by kernel_rfl) ?_; (repeat (first | ((first | refine wpQuiet_load_arr rfl _ rfl rfl hap78 Try.underlying50 (by kernel_rfl) ?_ | refine wpQuiet_load_arr rfl _ rfl rfl hap79 Try.underlying50 (by kernel_rfl) ?_); simp only [Act.put, List.setIfInBounds_toArray, List.set_cons_zero, List.set_cons_succ]) | go_big_quiet_step (fail) | quiet_step (fail))); refine wpQuiet_nil ?_; intro _ hwq_; obtain ⟨nq, hwr_⟩ := hwq_; subst hwr_); try go_wp2_with (fail))
                         go_ret
                         exact ⟨by first | rfl | (rw [← hR_]; first | rfl | (simp only [hR_]; rfl)) | (simp only [hR_]; rfl) | (simp only [hR_]; done) | (simp [errW_none, errW_some] <;> rfl) | (simp [*, errW_none, errW_some] <;> rfl), by repeat (first | (with_reducible first | exact HB.out | apply below_alloc | apply pw_below_drewN | apply below_drew1) | exact HB.out)⟩
             ·rw [if_neg c59] at H
              have c59b0 : (x15_4 == t454) = false := beq_eq_false_iff_ne.mpr c59
              have c59b1 : (x15_4 != t454) = true := bne_iff_ne.mpr c59
              exact absurd H (by simp)

/-- THE ONE PURE STATEMENT of endonymlaw4_TrieAgain: yours. -/
def endonymlaw4_TrieAgain.Pure : Prop := ∀ (l0 : List (S35)) (a1 : Int) (l2 : List Int), l0.length ≤ maxLen → l0.length * 24 ≤ 140737488351232 → (∀ x ∈ l0, S35.wf x) → (Lit.int .i64 a1).wf = true → l2.length ≤ maxLen → l2.length * 8 ≤ 140737488351232 → (∀ x ∈ l2, (Lit.int .i64 x).wf = true) → ∃ k, endonymlaw4_TrieAgain.f k l0 a1 l2 = some true
theorem endonymlaw4_TrieAgain.walk (P : endonymlaw4_TrieAgain.Pure) (a0 : Option Addr) (len0 cap0 : Nat) (l0 : List (S35)) (a1 : Int) (a2 : Option Addr) (len2 cap2 : Nat) (z2 : List Int) (w : World) (w0 : l0.length = len0 ∧ len0 ≤ cap0 ∧ Kd.C k35 w a0 len0 l0 ∧ l0.length * 24 ≤ 140737488351232 ∧ ∀ x ∈ l0, S35.wf x) (w1 : (Lit.int .i64 a1).wf = true) (w2 : (a2 = none ∧ len2 = 0 ∧ cap2 = 0 ∧ z2 = []) ∨ ∃ x, a2 = some x ∧ len2 ≤ cap2 ∧ cap2 ≤ maxLen ∧ z2.length = cap2 ∧ (∀ i, i < z2.length → w.cell? (x.add i) = some (.int .i64 (z2.getD i 0))) ∧ ∀ n ∈ z2, (Lit.int .i64 n).wf = true) (y2 : len2 * 8 ≤ 140737488351232) :
  Calls Try.prog 7 #[.slice a0 len0 cap0, .int .i64 a1, .slice a2 len2 cap2] w fun e w' => e = .returned (.bool true) ∧ Below w.heap.size w w' := by
 obtain ⟨rfl, hc0, hr0, y0, hw0⟩ := w0
 have hm0 : l0.length ≤ maxLen := hr0.2.1
 obtain ⟨l2, rfl, hr2, hm2, hw2, hc2⟩ := ReadsInt.ofRowC w2
 obtain ⟨k, h⟩ := P l0 a1 l2 hm0 y0 hw0 w1 hm2 y2 hw2
 refine (endonymlaw4_TrieAgain.calls k _ _ l0 a1 _ _ l2 w hr0 hc0 (Kd.C_of_reads (d := (0 : Int)) (h1 := fun _ => rfl) hr2) hc2 h).mono ?_
 rintro e w' ⟨rfl, hd⟩
 exact ⟨rfl, hd⟩

end Go.Proofs.Ytiaodapgankjnaa.Q
