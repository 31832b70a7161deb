-- Written by wip/tools/pr.py of this session over the kit's print (widened); the words are the kit's print's own. Not trusted: Lean checks it.
import Derived.Test.YtiaodapgankjnaaQx0
import Derived.Test.YtiaodapgankjnaaQx2
import Derived.Test.YtiaodapgankjnaaQx4
import Derived.Test.YtiaodapgankjnaaQx5
import Derived.Test.YtiaodapgankjnaaQx6
import Derived.Test.YtiaodapgankjnaaQx7
namespace Go.Proofs.Ytiaodapgankjnaa.Q
open Go.RowKit Go.Proofs.YtiaodapgankjnaaW.PrintWords Go.Proofs.YtiaodapgankjnaaW.PrintLast Go.Proofs.YtiaodapgankjnaaW.PrintMore
attribute [local go_sem] max2_int min2_int max_two min_two max_three min_three max_four min_four   -- for this text's walks alone
set_option linter.unusedVariables false
set_option linter.unusedSimpArgs false

/-! ### endonymlaw4_TrieBuilds: function 3 (by hand) -/
theorem cut_up {P : Program} (t e : TypeId) (kh : IntKind) {i : TypeInfo} (ht : P.underlying t = some (.slice e)) (hi : P.info? e = some i) (A : Option Addr) (n c : Nat) (j : Int) (h0 : 0 ≤ j) {m : Nat} (hm : j ≤ m) (hc : m ≤ c) :
    ∀ W : World, (Instr.slice t (.slice A n c) none (some (.int kh j)) none).run P W = .ok (.slice A j.toNat c) W := by
  intro W
  have hel : P.elem t = e := by simp [Program.elem, ht]
  have hu : P.underlying t = some (.slice (P.elem t)) := by rw [hel]; exact ht
  have ha : (A.map fun x => x.add 0) = A := by cases A <;> simp [Addr.add]
  rw [run_slice_h W t A n c hu kh j h0 (by omega), hel]
  simp [sizeOf, typeInfo, hi, sliced, Result.andThen, ha]
mutual
def endonymlaw4_TrieBuilds.j0 : Nat → List (S35) → Int → List Int → List (S35) → Int → List (S57) → Bool → Option (Bool)
 | 0, _, _, _, _, _, _, _ => none
 | k + 1, x0, x1, x2, x7, x8, x9, x83 => if x83 = true then (some false) else (if (x9.isEmpty) = true then (some true) else (endonymlaw4_TrieBuilds.l0 k x0 x1 x2 x7 x8 x9 0))
def endonymlaw4_TrieBuilds.l0 : Nat → List (S35) → Int → List Int → List (S35) → Int → List (S57) → Int → Option (Bool)
 | 0, _, _, _, _, _, _, _ => none
 | k + 1, x0, x1, x2, x7, x8, x9, x14 => if x14 < x8 then (if 0 ≤ x14 then (if x14 < (x7.length : Int) then (if x14 < (x0.length : Int) then ((trie_Trie_Get.f x9 ((rd_T35 x0 x14).f0)).bind fun t196 => ((endonymref4_Get.f k x0 x1 ((rd_T35 x0 x14).f0)).bind fun t198 => (if t196 = t198 then ((trie_Trie_Get.f x9 ((rd_T35 x0 x14).f1)).bind fun t200 => ((endonymref4_Get.f k x0 x1 ((rd_T35 x0 x14).f1)).bind fun t202 => (if t200 = t202 then ((trie_Trie_Get.f x9 (wrap64 (((rd_T35 x0 x14).f0) - 1))).bind fun t204 => ((endonymref4_Get.f k x0 x1 (wrap64 (((rd_T35 x0 x14).f0) - 1))).bind fun t206 => (if t204 = t206 then ((trie_Trie_Get.f x9 (wrap64 (((rd_T35 x0 x14).f1) + 1))).bind fun t208 => ((endonymref4_Get.f k x0 x1 (wrap64 (((rd_T35 x0 x14).f1) + 1))).bind fun t210 => (if t208 = t210 then (endonymlaw4_TrieBuilds.l0 k x0 x1 x2 (x7.set (x14 : Int).toNat (⟨0, 1114111, 9⟩ : S35)) x8 x9 (wrap64 (x14 + 1))) else (some false)))) else (some false)))) else (some false)))) else (some false)))) else (none)) else (none)) else (none)) else (endonymlaw4_TrieBuilds.l1 k x0 x1 x2 x9 0)
def endonymlaw4_TrieBuilds.l1 : Nat → List (S35) → Int → List Int → List (S57) → Int → Option (Bool)
 | 0, _, _, _, _, _ => none
 | k + 1, x0, x1, x2, x9, x15 => if x15 < (x2.length : Int) then (endonymlaw4_TrieBuilds.j3 k x0 x1 x2 x9 x15 (decide (x15 < 100))) else (endonymlaw4_TrieBuilds.j3 k x0 x1 x2 x9 x15 false)
def endonymlaw4_TrieBuilds.j3 : Nat → List (S35) → Int → List Int → List (S57) → Int → Bool → Option (Bool)
 | 0, _, _, _, _, _, _ => none
 | k + 1, x0, x1, x2, x9, x15, x176 => if x176 = true then (if 0 ≤ x15 then (if x15 < (x2.length : Int) then ((trie_Trie_Get.f x9 (rd x2 x15)).bind fun t213 => ((endonymref4_Get.f k x0 x1 (rd x2 x15)).bind fun t215 => (if t213 = t215 then (endonymlaw4_TrieBuilds.l1 k x0 x1 x2 x9 (wrap64 (x15 + 1))) else (some false)))) else (none)) else (none)) else ((trie_Trie_Default.f x9).bind fun t211 => (some (t211 == x1)))
end
def endonymlaw4_TrieBuilds.f (k : Nat) (l0 : List (S35)) (a1 : Int) (l2 : List Int) : Option (Bool) := (endonymlaw4_few.f l0).bind fun bt169 => ((trie_Build.f k bt169.1 a1).bind fun bt175 => ((endonymref4_Check.f k bt169.2 a1).bind fun bt180 => ((endonymlaw4_told.f k).bind fun t182 => (if t182 = true then (if bt175.2.1 = bt180.1 then (if bt175.2.2 = bt180.2 then (if ((bt175.1.isEmpty) != (bt180.2 != 0)) = true then (endonymlaw4_TrieBuilds.j0 k bt169.2 a1 l2 bt169.1 (bt169.2.length : Int) bt175.1 true) else ((endonymref4_Same.f k bt169.1 bt169.2).bind fun t183 => (if t183 = true then (if 0 ≤ (wrap64 ((bt169.2.length : Int) + 2)) then (if (wrap64 ((bt169.2.length : Int) + 2)) ≤ ((bt169.2 ++ MK4).length : Int) then ((some ((bt169.2 ++ MK4).take ((wrap64 ((bt169.2.length : Int) + 2)) : Int).toNat : List (S35))).bind fun y184 => (if 0 ≤ (bt169.2.length : Int) then (if (bt169.2.length : Int) < (y184.length : Int) then (if ((rd_T35 y184 (bt169.2.length : Int)).f0) = (-7) then ((some ((bt169.2 ++ MK4).take ((wrap64 ((bt169.2.length : Int) + 2)) : Int).toNat : List (S35))).bind fun y189 => (if 0 ≤ (wrap64 ((bt169.2.length : Int) + 1)) then (if (wrap64 ((bt169.2.length : Int) + 1)) < (y189.length : Int) then (endonymlaw4_TrieBuilds.j0 k bt169.2 a1 l2 bt169.1 (bt169.2.length : Int) bt175.1 (((rd_T35 y189 (wrap64 ((bt169.2.length : Int) + 1))).f0) != (-8))) else (none)) else (none))) else (endonymlaw4_TrieBuilds.j0 k bt169.2 a1 l2 bt169.1 (bt169.2.length : Int) bt175.1 true)) else (none)) else (none))) else (none)) else (none)) else (endonymlaw4_TrieBuilds.j0 k bt169.2 a1 l2 bt169.1 (bt169.2.length : Int) bt175.1 true)))) else (endonymlaw4_TrieBuilds.j0 k bt169.2 a1 l2 bt169.1 (bt169.2.length : Int) bt175.1 true)) else (endonymlaw4_TrieBuilds.j0 k bt169.2 a1 l2 bt169.1 (bt169.2.length : Int) bt175.1 true)) else (endonymlaw4_TrieBuilds.j0 k bt169.2 a1 l2 bt169.1 (bt169.2.length : Int) bt175.1 true)))))
theorem endonymlaw4_TrieBuilds.mono_l : ∀ k, (∀ y0 y1 y2 y3 y4 y5 y6, LeO (endonymlaw4_TrieBuilds.j0 k y0 y1 y2 y3 y4 y5 y6) (endonymlaw4_TrieBuilds.j0 (k + 1) y0 y1 y2 y3 y4 y5 y6)) ∧ (∀ y0 y1 y2 y3 y4 y5 y6, LeO (endonymlaw4_TrieBuilds.l0 k y0 y1 y2 y3 y4 y5 y6) (endonymlaw4_TrieBuilds.l0 (k + 1) y0 y1 y2 y3 y4 y5 y6)) ∧ (∀ y0 y1 y2 y3 y4, LeO (endonymlaw4_TrieBuilds.l1 k y0 y1 y2 y3 y4) (endonymlaw4_TrieBuilds.l1 (k + 1) y0 y1 y2 y3 y4)) ∧ (∀ y0 y1 y2 y3 y4 y5, LeO (endonymlaw4_TrieBuilds.j3 k y0 y1 y2 y3 y4 y5) (endonymlaw4_TrieBuilds.j3 (k + 1) y0 y1 y2 y3 y4 y5))
 | 0 => ⟨fun _ _ _ _ _ _ _ r h => by simp [endonymlaw4_TrieBuilds.j0] at h, fun _ _ _ _ _ _ _ r h => by simp [endonymlaw4_TrieBuilds.l0] at h, fun _ _ _ _ _ r h => by simp [endonymlaw4_TrieBuilds.l1] at h, fun _ _ _ _ _ _ r h => by simp [endonymlaw4_TrieBuilds.j3] at h⟩
 | k + 1 => by
  obtain ⟨ih0, ih1, ih2, ih3⟩ := endonymlaw4_TrieBuilds.mono_l k
  refine ⟨?_, ?_, ?_, ?_⟩
  ·intro y0 y1 y2 y3 y4 y5 y6
   unfold endonymlaw4_TrieBuilds.j0
   repeat' first
   | (with_reducible exact ih0 _ _ _ _ _ _ _)
   | (with_reducible exact ih1 _ _ _ _ _ _ _)
   | (with_reducible exact ih2 _ _ _ _ _)
   | (with_reducible exact ih3 _ _ _ _ _ _)
   | (with_reducible exact endonymlaw4_told.mono _)
   | (with_reducible exact endonymref4_Check.mono _ _ _)
   | (with_reducible exact endonymref4_Get.mono _ _ _ _)
   | (with_reducible exact endonymref4_Same.mono _ _ _)
   | (with_reducible exact trie_Build.mono _ _ _)
   | (with_reducible exact LeO.refl _)
   | (with_reducible exact LeO.none _)
   | (with_reducible refine LeO.ite ?_ ?_)
   | (with_reducible refine LeO.bind ?_ (fun _ => ?_))
   | exact ih0 _ _ _ _ _ _ _
   | exact ih1 _ _ _ _ _ _ _
   | exact ih2 _ _ _ _ _
   | exact ih3 _ _ _ _ _ _
   | exact endonymlaw4_told.mono _
   | exact endonymref4_Check.mono _ _ _
   | exact endonymref4_Get.mono _ _ _ _
   | exact endonymref4_Same.mono _ _ _
   | exact trie_Build.mono _ _ _
   | exact LeO.none _
   | refine LeO.ite ?_ ?_
   | refine LeO.bind ?_ (fun _ => ?_)
  ·intro y0 y1 y2 y3 y4 y5 y6
   unfold endonymlaw4_TrieBuilds.l0
   repeat' first
   | (with_reducible exact ih0 _ _ _ _ _ _ _)
   | (with_reducible exact ih1 _ _ _ _ _ _ _)
   | (with_reducible exact ih2 _ _ _ _ _)
   | (with_reducible exact ih3 _ _ _ _ _ _)
   | (with_reducible exact endonymlaw4_told.mono _)
   | (with_reducible exact endonymref4_Check.mono _ _ _)
   | (with_reducible exact endonymref4_Get.mono _ _ _ _)
   | (with_reducible exact endonymref4_Same.mono _ _ _)
   | (with_reducible exact trie_Build.mono _ _ _)
   | (with_reducible exact LeO.refl _)
   | (with_reducible exact LeO.none _)
   | (with_reducible refine LeO.ite ?_ ?_)
   | (with_reducible refine LeO.bind ?_ (fun _ => ?_))
   | exact ih0 _ _ _ _ _ _ _
   | exact ih1 _ _ _ _ _ _ _
   | exact ih2 _ _ _ _ _
   | exact ih3 _ _ _ _ _ _
   | exact endonymlaw4_told.mono _
   | exact endonymref4_Check.mono _ _ _
   | exact endonymref4_Get.mono _ _ _ _
   | exact endonymref4_Same.mono _ _ _
   | exact trie_Build.mono _ _ _
   | exact LeO.none _
   | refine LeO.ite ?_ ?_
   | refine LeO.bind ?_ (fun _ => ?_)
  ·intro y0 y1 y2 y3 y4
   unfold endonymlaw4_TrieBuilds.l1
   repeat' first
   | (with_reducible exact ih0 _ _ _ _ _ _ _)
   | (with_reducible exact ih1 _ _ _ _ _ _ _)
   | (with_reducible exact ih2 _ _ _ _ _)
   | (with_reducible exact ih3 _ _ _ _ _ _)
   | (with_reducible exact endonymlaw4_told.mono _)
   | (with_reducible exact endonymref4_Check.mono _ _ _)
   | (with_reducible exact endonymref4_Get.mono _ _ _ _)
   | (with_reducible exact endonymref4_Same.mono _ _ _)
   | (with_reducible exact trie_Build.mono _ _ _)
   | (with_reducible exact LeO.refl _)
   | (with_reducible exact LeO.none _)
   | (with_reducible refine LeO.ite ?_ ?_)
   | (with_reducible refine LeO.bind ?_ (fun _ => ?_))
   | exact ih0 _ _ _ _ _ _ _
   | exact ih1 _ _ _ _ _ _ _
   | exact ih2 _ _ _ _ _
   | exact ih3 _ _ _ _ _ _
   | exact endonymlaw4_told.mono _
   | exact endonymref4_Check.mono _ _ _
   | exact endonymref4_Get.mono _ _ _ _
   | exact endonymref4_Same.mono _ _ _
   | exact trie_Build.mono _ _ _
   | exact LeO.none _
   | refine LeO.ite ?_ ?_
   | refine LeO.bind ?_ (fun _ => ?_)
  ·intro y0 y1 y2 y3 y4 y5
   unfold endonymlaw4_TrieBuilds.j3
   repeat' first
   | (with_reducible exact ih0 _ _ _ _ _ _ _)
   | (with_reducible exact ih1 _ _ _ _ _ _ _)
   | (with_reducible exact ih2 _ _ _ _ _)
   | (with_reducible exact ih3 _ _ _ _ _ _)
   | (with_reducible exact endonymlaw4_told.mono _)
   | (with_reducible exact endonymref4_Check.mono _ _ _)
   | (with_reducible exact endonymref4_Get.mono _ _ _ _)
   | (with_reducible exact endonymref4_Same.mono _ _ _)
   | (with_reducible exact trie_Build.mono _ _ _)
   | (with_reducible exact LeO.refl _)
   | (with_reducible exact LeO.none _)
   | (with_reducible refine LeO.ite ?_ ?_)
   | (with_reducible refine LeO.bind ?_ (fun _ => ?_))
   | exact ih0 _ _ _ _ _ _ _
   | exact ih1 _ _ _ _ _ _ _
   | exact ih2 _ _ _ _ _
   | exact ih3 _ _ _ _ _ _
   | exact endonymlaw4_told.mono _
   | exact endonymref4_Check.mono _ _ _
   | exact endonymref4_Get.mono _ _ _ _
   | exact endonymref4_Same.mono _ _ _
   | exact trie_Build.mono _ _ _
   | exact LeO.none _
   | refine LeO.ite ?_ ?_
   | refine LeO.bind ?_ (fun _ => ?_)
theorem endonymlaw4_TrieBuilds.mono : ∀ a0 a1 a2 k, LeO (endonymlaw4_TrieBuilds.f k a0 a1 a2) (endonymlaw4_TrieBuilds.f (k + 1) a0 a1 a2) := by
 intro a0 a1 a2 k
 obtain ⟨ih0, ih1, ih2, ih3⟩ := endonymlaw4_TrieBuilds.mono_l k
 unfold endonymlaw4_TrieBuilds.f
 repeat' first
   | (with_reducible exact ih0 _ _ _ _ _ _ _)
   | (with_reducible exact ih1 _ _ _ _ _ _ _)
   | (with_reducible exact ih2 _ _ _ _ _)
   | (with_reducible exact ih3 _ _ _ _ _ _)
   | (with_reducible exact endonymlaw4_told.mono _)
   | (with_reducible exact endonymref4_Check.mono _ _ _)
   | (with_reducible exact endonymref4_Get.mono _ _ _ _)
   | (with_reducible exact endonymref4_Same.mono _ _ _)
   | (with_reducible exact trie_Build.mono _ _ _)
   | (with_reducible exact LeO.refl _)
   | (with_reducible exact LeO.none _)
   | (with_reducible refine LeO.ite ?_ ?_)
   | (with_reducible refine LeO.bind ?_ (fun _ => ?_))
   | exact ih0 _ _ _ _ _ _ _
   | exact ih1 _ _ _ _ _ _ _
   | exact ih2 _ _ _ _ _
   | exact ih3 _ _ _ _ _ _
   | exact endonymlaw4_told.mono _
   | exact endonymref4_Check.mono _ _ _
   | exact endonymref4_Get.mono _ _ _ _
   | exact endonymref4_Same.mono _ _ _
   | exact trie_Build.mono _ _ _
   | exact LeO.none _
   | refine LeO.ite ?_ ?_
   | refine LeO.bind ?_ (fun _ => ?_)
theorem endonymlaw4_TrieBuilds.j0_no {k : Nat} {y0 : List (S35)} {y1 : Int} {y2 : List Int} {y7 : List (S35)} {y8 : Int} {y9 : List (S57)} (h : endonymlaw4_TrieBuilds.j0 k y0 y1 y2 y7 y8 y9 true = some true) : False := by
 cases k with
 | zero => simp [endonymlaw4_TrieBuilds.j0] at h
 | succ k => rw [endonymlaw4_TrieBuilds.j0, if_pos rfl] at h; cases h
def endonymlaw4_TrieBuilds.T13 : Bool × List (List Nat × List Nat) := (true, [([], []), ([], []), ([], []), ([1, 2], [1, 2]), ([3], [3]), ([4], [4]), ([0, 5], [0, 5]), ([], []), ([], []), ([], []), ([], []), ([9, 10], [9, 10]), ([11], [11]), ([12], [12]), ([7, 8, 13, 6], [7, 8, 13]), ([6, 14], [6, 14]), ([15, 14], [15]), ([16], [16]), ([16], [16]), ([16], [16]), ([18, 19, 16], [16, 18, 19]), ([20, 16], [16, 20]), ([21, 16], [16, 21]), ([17, 22, 16, 16], [16, 17, 22]), ([16], [16]), ([16], [16]), ([16], [16]), ([16], [16]), ([26, 27, 16], [16, 26, 27]), ([28, 16], [16, 28]), ([29, 16], [16, 29]), ([24, 25, 30, 23, 16], [16, 24, 25, 30]), ([23, 31, 16], [16, 23, 31]), ([16, 32], [16, 32]), ([33, 31], [33]), ([34], [34]), ([34], [34]), ([34], [34]), ([36, 37, 34], [34, 36, 37]), ([38, 34], [34, 38]), ([39, 34], [34, 39]), ([40, 34], [34, 40]), ([35, 41, 34, 34], [34, 35, 41]), ([34], [34]), ([34], [34]), ([34], [34]), ([34], [34]), ([45, 46, 34], [34, 45, 46]), ([47, 34], [34, 47]), ([48, 34], [34, 48]), ([49, 34], [34, 49]), ([43, 44, 50, 42, 34], [34, 43, 44, 50]), ([42, 51, 34], [34, 42, 51]), ([34, 52], [34, 52]), ([53, 51], [53]), ([54], [54]), ([54], [54]), ([54], [54]), ([56, 57, 54], [54, 56, 57]), ([58, 54], [54, 58]), ([59, 54], [54, 59]), ([60, 54], [54, 60]), ([55, 61, 54, 54], [54, 55, 61]), ([54], [54]), ([54], [54]), ([54], [54]), ([54], [54]), ([65, 66, 54], [54, 65, 66]), ([67, 54], [54, 67]), ([68, 54], [54, 68]), ([69, 54], [54, 69]), ([63, 64, 70, 62, 54], [54, 63, 64, 70]), ([62, 71, 54], [54, 62, 71]), ([54, 72], [54, 72])])
def endonymlaw4_TrieBuilds.B13 : List Nat := [0, 0, 0, 6, 14, 30, 63, 0, 0, 0, 0, 1536, 3584, 7680, 16383, 32767, 65535, 131071, 131071, 131071, 917503, 1966079, 4063231, 8388607, 131071, 131071, 131071, 131071, 201457663, 469893119, 1006764031, 2147483647, 4294967295, 8589934591, 17179869183, 34359738367, 34359738367, 34359738367, 240518168575, 515396075519, 1065151889407, 2164663517183, 4398046511103, 34359738367, 34359738367, 34359738367, 34359738367, 105587476004863, 246324964360191, 527799941070847, 1090749894492159, 2251799813685247, 4503599627370495, 9007199254740991, 18014398509481983, 36028797018963967, 36028797018963967, 36028797018963967, 252201579132747775, 540431955284459519, 1116892707587883007, 2269814212194729983, 4611686018427387903, 36028797018963967, 36028797018963967, 36028797018963967, 36028797018963967, 110716493239276273663, 258290445828952686591, 553438351008305512447, 1143734161367011164159, 2361183241434822606847, 4722366482869645213695, 9444732965739290427391]
theorem endonymlaw4_TrieBuilds.tab13 : rtab .any (opsOf Try.f3 13) = endonymlaw4_TrieBuilds.T13 := by kernel_rfl
theorem endonymlaw4_TrieBuilds.bits13 : waitsOk endonymlaw4_TrieBuilds.T13.2 endonymlaw4_TrieBuilds.B13 = true := by kernel_rfl
def endonymlaw4_TrieBuilds.T18 : Bool × List (List Nat × List Nat) := (true, [([], []), ([], []), ([], []), ([1, 2], [1, 2]), ([3], [3]), ([0, 4], [0, 4]), ([], []), ([], []), ([], []), ([], []), ([8, 9], [8, 9]), ([10], [10]), ([6, 7, 11, 5], [6, 7, 11]), ([5, 12], [5, 12])])
def endonymlaw4_TrieBuilds.B18 : List Nat := [0, 0, 0, 6, 14, 31, 0, 0, 0, 0, 768, 1792, 4095, 8191]
theorem endonymlaw4_TrieBuilds.tab18 : rtab .any (opsOf Try.f3 18) = endonymlaw4_TrieBuilds.T18 := by kernel_rfl
theorem endonymlaw4_TrieBuilds.bits18 : waitsOk endonymlaw4_TrieBuilds.T18.2 endonymlaw4_TrieBuilds.B18 = true := by kernel_rfl
set_option maxHeartbeats 8000000 in
set_option maxRecDepth 100000 in
theorem endonymlaw4_TrieBuilds.calls (k : Nat) (A0 : Option Addr) (c0 : Nat) (l0 : List (S35)) (a1 : Int) (A2 : Option Addr) (c2 : Nat) (l2 : List Int) (w : World) (hr0 : Kd.C k35 w A0 l0.length l0) (hc0 : l0.length ≤ c0) (hr2 : Kd.C (Kd.int .i64) w A2 l2.length l2) (hc2 : l2.length ≤ c2) (h : endonymlaw4_TrieBuilds.f k l0 a1 l2 = some true) :
  Calls Try.prog 3 #[.slice A0 l0.length c0, .int .i64 a1, .slice A2 l2.length c2] w fun e w' => e = .returned (.bool true) ∧ Below w.heap.size w w' := by
 have hu35 := Try.underlying35
 have HR0 := Aside0.mk hr0
 have HC0 := Aside0.mk hc0
 clear hr0 hc0
 have HR2 := Aside0.mk hr2
 have HC2 := Aside0.mk hc2
 clear hr2 hc2
 have HB := Aside0.mk (Below.refl w.heap.size w)
 have H : ((endonymlaw4_few.f l0).bind fun bt169 => ((trie_Build.f k bt169.1 a1).bind fun bt175 => ((endonymref4_Check.f k bt169.2 a1).bind fun bt180 => ((endonymlaw4_told.f k).bind fun t182 => (if t182 = true then (if bt175.2.1 = bt180.1 then (if bt175.2.2 = bt180.2 then (if ((bt175.1.isEmpty) != (bt180.2 != 0)) = true then (endonymlaw4_TrieBuilds.j0 k bt169.2 a1 l2 bt169.1 (bt169.2.length : Int) bt175.1 true) else ((endonymref4_Same.f k bt169.1 bt169.2).bind fun t183 => (if t183 = true then (if 0 ≤ (wrap64 ((bt169.2.length : Int) + 2)) then (if (wrap64 ((bt169.2.length : Int) + 2)) ≤ ((bt169.2 ++ MK4).length : Int) then ((some ((bt169.2 ++ MK4).take ((wrap64 ((bt169.2.length : Int) + 2)) : Int).toNat : List (S35))).bind fun y184 => (if 0 ≤ (bt169.2.length : Int) then (if (bt169.2.length : Int) < (y184.length : Int) then (if ((rd_T35 y184 (bt169.2.length : Int)).f0) = (-7) then ((some ((bt169.2 ++ MK4).take ((wrap64 ((bt169.2.length : Int) + 2)) : Int).toNat : List (S35))).bind fun y189 => (if 0 ≤ (wrap64 ((bt169.2.length : Int) + 1)) then (if (wrap64 ((bt169.2.length : Int) + 1)) < (y189.length : Int) then (endonymlaw4_TrieBuilds.j0 k bt169.2 a1 l2 bt169.1 (bt169.2.length : Int) bt175.1 (((rd_T35 y189 (wrap64 ((bt169.2.length : Int) + 1))).f0) != (-8))) else (none)) else (none))) else (endonymlaw4_TrieBuilds.j0 k bt169.2 a1 l2 bt169.1 (bt169.2.length : Int) bt175.1 true)) else (none)) else (none))) else (none)) else (none)) else (endonymlaw4_TrieBuilds.j0 k bt169.2 a1 l2 bt169.1 (bt169.2.length : Int) bt175.1 true)))) else (endonymlaw4_TrieBuilds.j0 k bt169.2 a1 l2 bt169.1 (bt169.2.length : Int) bt175.1 true)) else (endonymlaw4_TrieBuilds.j0 k bt169.2 a1 l2 bt169.1 (bt169.2.length : Int) bt175.1 true)) else (endonymlaw4_TrieBuilds.j0 k bt169.2 a1 l2 bt169.1 (bt169.2.length : Int) bt175.1 true)))))) = some true := h
 clear h
 replace H := Option.bind_eq_some_iff.mp H
 obtain ⟨⟨t169, t170⟩, A40, H⟩ := H
 replace H : ((trie_Build.f k t169 a1).bind fun bt175 => ((endonymref4_Check.f k t170 a1).bind fun bt180 => ((endonymlaw4_told.f k).bind fun t182 => (if t182 = true then (if bt175.2.1 = bt180.1 then (if bt175.2.2 = bt180.2 then (if ((bt175.1.isEmpty) != (bt180.2 != 0)) = true then (endonymlaw4_TrieBuilds.j0 k t170 a1 l2 t169 (t170.length : Int) bt175.1 true) else ((endonymref4_Same.f k t169 t170).bind fun t183 => (if t183 = true then (if 0 ≤ (wrap64 ((t170.length : Int) + 2)) then (if (wrap64 ((t170.length : Int) + 2)) ≤ ((t170 ++ MK4).length : Int) then ((some ((t170 ++ MK4).take ((wrap64 ((t170.length : Int) + 2)) : Int).toNat : List (S35))).bind fun y184 => (if 0 ≤ (t170.length : Int) then (if (t170.length : Int) < (y184.length : Int) then (if ((rd_T35 y184 (t170.length : Int)).f0) = (-7) then ((some ((t170 ++ MK4).take ((wrap64 ((t170.length : Int) + 2)) : Int).toNat : List (S35))).bind fun y189 => (if 0 ≤ (wrap64 ((t170.length : Int) + 1)) then (if (wrap64 ((t170.length : Int) + 1)) < (y189.length : Int) then (endonymlaw4_TrieBuilds.j0 k t170 a1 l2 t169 (t170.length : Int) bt175.1 (((rd_T35 y189 (wrap64 ((t170.length : Int) + 1))).f0) != (-8))) else (none)) else (none))) else (endonymlaw4_TrieBuilds.j0 k t170 a1 l2 t169 (t170.length : Int) bt175.1 true)) else (none)) else (none))) else (none)) else (none)) else (endonymlaw4_TrieBuilds.j0 k t170 a1 l2 t169 (t170.length : Int) bt175.1 true)))) else (endonymlaw4_TrieBuilds.j0 k t170 a1 l2 t169 (t170.length : Int) bt175.1 true)) else (endonymlaw4_TrieBuilds.j0 k t170 a1 l2 t169 (t170.length : Int) bt175.1 true)) else (endonymlaw4_TrieBuilds.j0 k t170 a1 l2 t169 (t170.length : Int) bt175.1 true))))) = some true := H
 have A4 := Aside0.mk A40
 clear A40
 replace H := Option.bind_eq_some_iff.mp H
 obtain ⟨⟨t175, t176, t177⟩, A50, H⟩ := H
 replace H : ((endonymref4_Check.f k t170 a1).bind fun bt180 => ((endonymlaw4_told.f k).bind fun t182 => (if t182 = true then (if t176 = bt180.1 then (if t177 = bt180.2 then (if ((t175.isEmpty) != (bt180.2 != 0)) = true then (endonymlaw4_TrieBuilds.j0 k t170 a1 l2 t169 (t170.length : Int) t175 true) else ((endonymref4_Same.f k t169 t170).bind fun t183 => (if t183 = true then (if 0 ≤ (wrap64 ((t170.length : Int) + 2)) then (if (wrap64 ((t170.length : Int) + 2)) ≤ ((t170 ++ MK4).length : Int) then ((some ((t170 ++ MK4).take ((wrap64 ((t170.length : Int) + 2)) : Int).toNat : List (S35))).bind fun y184 => (if 0 ≤ (t170.length : Int) then (if (t170.length : Int) < (y184.length : Int) then (if ((rd_T35 y184 (t170.length : Int)).f0) = (-7) then ((some ((t170 ++ MK4).take ((wrap64 ((t170.length : Int) + 2)) : Int).toNat : List (S35))).bind fun y189 => (if 0 ≤ (wrap64 ((t170.length : Int) + 1)) then (if (wrap64 ((t170.length : Int) + 1)) < (y189.length : Int) then (endonymlaw4_TrieBuilds.j0 k t170 a1 l2 t169 (t170.length : Int) t175 (((rd_T35 y189 (wrap64 ((t170.length : Int) + 1))).f0) != (-8))) else (none)) else (none))) else (endonymlaw4_TrieBuilds.j0 k t170 a1 l2 t169 (t170.length : Int) t175 true)) else (none)) else (none))) else (none)) else (none)) else (endonymlaw4_TrieBuilds.j0 k t170 a1 l2 t169 (t170.length : Int) t175 true)))) else (endonymlaw4_TrieBuilds.j0 k t170 a1 l2 t169 (t170.length : Int) t175 true)) else (endonymlaw4_TrieBuilds.j0 k t170 a1 l2 t169 (t170.length : Int) t175 true)) else (endonymlaw4_TrieBuilds.j0 k t170 a1 l2 t169 (t170.length : Int) t175 true)))) = some true := H
 have A5 := Aside0.mk A50
 clear A50
 replace H := Option.bind_eq_some_iff.mp H
 obtain ⟨⟨t180, t181⟩, A60, H⟩ := H
 replace H : ((endonymlaw4_told.f k).bind fun t182 => (if t182 = true then (if t176 = t180 then (if t177 = t181 then (if ((t175.isEmpty) != (t181 != 0)) = true then (endonymlaw4_TrieBuilds.j0 k t170 a1 l2 t169 (t170.length : Int) t175 true) else ((endonymref4_Same.f k t169 t170).bind fun t183 => (if t183 = true then (if 0 ≤ (wrap64 ((t170.length : Int) + 2)) then (if (wrap64 ((t170.length : Int) + 2)) ≤ ((t170 ++ MK4).length : Int) then ((some ((t170 ++ MK4).take ((wrap64 ((t170.length : Int) + 2)) : Int).toNat : List (S35))).bind fun y184 => (if 0 ≤ (t170.length : Int) then (if (t170.length : Int) < (y184.length : Int) then (if ((rd_T35 y184 (t170.length : Int)).f0) = (-7) then ((some ((t170 ++ MK4).take ((wrap64 ((t170.length : Int) + 2)) : Int).toNat : List (S35))).bind fun y189 => (if 0 ≤ (wrap64 ((t170.length : Int) + 1)) then (if (wrap64 ((t170.length : Int) + 1)) < (y189.length : Int) then (endonymlaw4_TrieBuilds.j0 k t170 a1 l2 t169 (t170.length : Int) t175 (((rd_T35 y189 (wrap64 ((t170.length : Int) + 1))).f0) != (-8))) else (none)) else (none))) else (endonymlaw4_TrieBuilds.j0 k t170 a1 l2 t169 (t170.length : Int) t175 true)) else (none)) else (none))) else (none)) else (none)) else (endonymlaw4_TrieBuilds.j0 k t170 a1 l2 t169 (t170.length : Int) t175 true)))) else (endonymlaw4_TrieBuilds.j0 k t170 a1 l2 t169 (t170.length : Int) t175 true)) else (endonymlaw4_TrieBuilds.j0 k t170 a1 l2 t169 (t170.length : Int) t175 true)) else (endonymlaw4_TrieBuilds.j0 k t170 a1 l2 t169 (t170.length : Int) t175 true))) = some true := H
 have A6 := Aside0.mk A60
 clear A60
 have HC7 := Aside0.mk H
 clear H
 go_enter Try.func3, Try.ntmps3
 go_upto_region 5 with (first | ((with_reducible refine gate_callee (f := 8) rfl ?_); refine goesL_ (some 18) rfl rfl Try.func8 (by kernel_rfl) rfl #[.slice A0 l0.length c0] rfl (by (try simp only [List.map_toArray, List.map_cons, List.map_nil]); first | done | rfl | (simp only [List.length_drop, List.length_take]; rfl)) ?_; (with_reducible refine (endonymlaw4_few.marks _ _ l0 t169 t170 _ ?side1 ?side2 A4.out).mono ?_); (case side1 => repeat (first | exact HR0.out | (with_reducible refine Kd.C_alloc ?_ _) | (with_reducible refine Kd.C_drewN ?_ _) | (with_reducible refine Kd.C_drew ?_))); (case side2 => exact HC0.out); rintro e w8 ⟨v171, v173, rfl, ho0, ho1, hb, Amk, cmk, emk, hmk, hmk2⟩; refine ⟨_, rfl, ?_⟩; have n0_ := Aside0.mk (Kd.R_lower ho0 (below_size (by repeat (first | (with_reducible first | exact HB.out | apply below_alloc | apply pw_below_drewN | apply below_drew1) | exact HB.out)))); have n1_ := Aside0.mk (Kd.R_lower ho1 (below_size (by repeat (first | (with_reducible first | exact HB.out | apply below_alloc | apply pw_below_drewN | apply below_drew1) | exact HB.out)))); have n2_ := Aside0.mk (below_step (by repeat (first | (with_reducible first | exact HB.out | apply below_alloc | apply pw_below_drewN | apply below_drew1) | exact HB.out)) hb); clear HB; have HO172 := n0_; have HO174 := n1_; have HB := n2_; clear n0_ n1_ n2_; (try clear hb); (try clear hb2); (try clear hk); (try clear hi); (try clear ho0); (try clear ho1); obtain ⟨Ao9, co9, eo9⟩ := Kd.R_slice HO174.out; subst eo9; obtain ⟨Ao10, co10, eo10⟩ := Kd.R_slice HO172.out; subst eo10; injection emk with emk1 emk0 emk2; subst emk1; subst emk2; have HMK := Aside0.mk (And.intro hmk hmk2); clear hmk hmk2 emk0) | ((with_reducible refine gate_callee (f := 9) rfl ?_); refine goesL_ (some 26) rfl rfl Try.func9 (by kernel_rfl) rfl #[.slice Ao10 t169.length co10, .int .i64 a1] rfl (by (try simp only [List.map_toArray, List.map_cons, List.map_nil]); first | done | rfl | (simp only [List.length_drop, List.length_take]; rfl)) ?_; (with_reducible refine (trie_Build.calls k _ _ t169 a1 t175 t176 t177 _ ?side1 ?side2 A5.out).mono ?_); (case side1 => repeat (first | exact (Kd.R_reads' HO172.out).2.2 | (with_reducible refine Kd.C_alloc ?_ _) | (with_reducible refine Kd.C_drewN ?_ _) | (with_reducible refine Kd.C_drew ?_))); (case side2 => exact (Kd.R_reads' HO172.out).2.1); rintro e w11 ⟨v178, rfl, ho0, hb⟩; have hm_ := Aside0.mk (And.intro (Kd.C_below (by repeat (first | (with_reducible exact HMK.out.1) | (with_reducible refine Kd.C_alloc ?_ _) | (with_reducible refine Kd.C_drewN ?_ _) | (with_reducible refine Kd.C_drew ?_) | exact HMK.out.1)) hb) HMK.out.2); clear HMK; have HMK := hm_; clear hm_; refine ⟨_, rfl, ?_⟩; have n0_ := Aside0.mk (Kd.R_below (by (with_reducible repeat (first | apply Kd.R_alloc | apply Kd.R_drewN | apply Kd.R_drew)); first | exact HO172.out | exact Kd.R_mono HO172.out (fun _ hk => (by first | exact hk | exact fun e_ => hk (e_.trans (own_len _ _ _ _ _))))) hb); have n1_ := Aside0.mk (Kd.R_below (by (with_reducible repeat (first | apply Kd.R_alloc | apply Kd.R_drewN | apply Kd.R_drew)); first | exact HO174.out | exact Kd.R_mono HO174.out (fun _ hk => (by first | exact hk | exact fun e_ => hk (e_.trans (own_len _ _ _ _ _))))) hb); have n2_ := Aside0.mk (Kd.P_lower ho0 (below_size (by repeat (first | (with_reducible first | exact HB.out | apply below_alloc | apply pw_below_drewN | apply below_drew1) | exact HB.out)))); have n3_ := Aside0.mk (below_step (by repeat (first | (with_reducible first | exact HB.out | apply below_alloc | apply pw_below_drewN | apply below_drew1) | exact HB.out)) hb); clear HO172; clear HO174; clear HB; have HO172 := n0_; have HO174 := n1_; have HO179 := n2_; have HB := n3_; clear n0_ n1_ n2_ n3_; (try clear hb); (try clear hb2); (try clear hk); (try clear hi); (try clear ho0)) | ((with_reducible refine gate_callee (f := 10) rfl ?_); refine goesL_ (some 33) rfl rfl Try.func10 (by kernel_rfl) rfl #[.slice Ao9 t170.length co9, .int .i64 a1] rfl (by (try simp only [List.map_toArray, List.map_cons, List.map_nil]); first | done | rfl | (simp only [List.length_drop, List.length_take]; rfl)) ?_; (with_reducible refine (endonymref4_Check.calls k _ _ t170 a1 t180 t181 _ ?side1 ?side2 A6.out).mono ?_); (case side1 => repeat (first | exact (Kd.R_reads' HO174.out).2.2 | (with_reducible refine Kd.C_alloc ?_ _) | (with_reducible refine Kd.C_drewN ?_ _) | (with_reducible refine Kd.C_drew ?_))); (case side2 => exact (Kd.R_reads' HO174.out).2.1); rintro e w12 ⟨rfl, hb⟩; have hm_ := Aside0.mk (And.intro (Kd.C_below (by repeat (first | (with_reducible exact HMK.out.1) | (with_reducible refine Kd.C_alloc ?_ _) | (with_reducible refine Kd.C_drewN ?_ _) | (with_reducible refine Kd.C_drew ?_) | exact HMK.out.1)) hb) HMK.out.2); clear HMK; have HMK := hm_; clear hm_; refine ⟨_, rfl, ?_⟩; have n0_ := Aside0.mk (Kd.R_below (by (with_reducible repeat (first | apply Kd.R_alloc | apply Kd.R_drewN | apply Kd.R_drew)); first | exact HO172.out | exact Kd.R_mono HO172.out (fun _ hk => (by first | exact hk | exact fun e_ => hk (e_.trans (own_len _ _ _ _ _))))) hb); have n1_ := Aside0.mk (Kd.R_below (by (with_reducible repeat (first | apply Kd.R_alloc | apply Kd.R_drewN | apply Kd.R_drew)); first | exact HO174.out | exact Kd.R_mono HO174.out (fun _ hk => (by first | exact hk | exact fun e_ => hk (e_.trans (own_len _ _ _ _ _))))) hb); have n2_ := Aside0.mk (Kd.P_below (by (with_reducible repeat (first | apply Kd.P_alloc | apply Kd.P_drewN | apply Kd.P_drew)); exact HO179.out) hb); have n3_ := Aside0.mk (below_step (by repeat (first | (with_reducible first | exact HB.out | apply below_alloc | apply pw_below_drewN | apply below_drew1) | exact HB.out)) hb); clear HO172; clear HO174; clear HO179; clear HB; have HO172 := n0_; have HO174 := n1_; have HO179 := n2_; have HB := n3_; clear n0_ n1_ n2_ n3_; (try clear hb); (try clear hb2); (try clear hk); (try clear hi)))
 (try simp only [Act.put, List.setIfInBounds_toArray, List.set_cons_zero, List.set_cons_succ])
 go_cut [83] (fun v83 wc => ∃ (kq : Nat) (x83_6 : Bool), v83 = .bool x83_6 ∧ Aside0 (endonymlaw4_TrieBuilds.j0 kq t170 a1 l2 t169 (t170.length : Int) t175 x83_6 = some true) ∧ Aside0 (kq ≤ k) ∧ Aside0 (Kd.R k35 35 wc w.heap.size (fun k_ => some k_ ≠ ((.slice Ao10 t169.length co10) : Value).ownBlock) (.slice Ao9 t170.length co9) t170) ∧ Aside0 (Kd.R k35 35 wc w.heap.size (fun k_ => some k_ ≠ ((.slice Ao9 t170.length co9) : Value).ownBlock) (.slice Ao10 t169.length co10) t169) ∧ Aside0 (Kd.P k57 57 wc w.heap.size (fun _ => True) v178 t175) ∧ Aside0 (Below w.heap.size w wc))
 case first =>
  have H := HC7.out
  clear HC7
  replace H := Option.bind_eq_some_iff.mp H
  obtain ⟨t182, A130, H⟩ := H
  replace H : (if t182 = true then (if t176 = t180 then (if t177 = t181 then (if ((t175.isEmpty) != (t181 != 0)) = true then (endonymlaw4_TrieBuilds.j0 k t170 a1 l2 t169 (t170.length : Int) t175 true) else ((endonymref4_Same.f k t169 t170).bind fun t183 => (if t183 = true then (if 0 ≤ (wrap64 ((t170.length : Int) + 2)) then (if (wrap64 ((t170.length : Int) + 2)) ≤ ((t170 ++ MK4).length : Int) then ((some ((t170 ++ MK4).take ((wrap64 ((t170.length : Int) + 2)) : Int).toNat : List (S35))).bind fun y184 => (if 0 ≤ (t170.length : Int) then (if (t170.length : Int) < (y184.length : Int) then (if ((rd_T35 y184 (t170.length : Int)).f0) = (-7) then ((some ((t170 ++ MK4).take ((wrap64 ((t170.length : Int) + 2)) : Int).toNat : List (S35))).bind fun y189 => (if 0 ≤ (wrap64 ((t170.length : Int) + 1)) then (if (wrap64 ((t170.length : Int) + 1)) < (y189.length : Int) then (endonymlaw4_TrieBuilds.j0 k t170 a1 l2 t169 (t170.length : Int) t175 (((rd_T35 y189 (wrap64 ((t170.length : Int) + 1))).f0) != (-8))) else (none)) else (none))) else (endonymlaw4_TrieBuilds.j0 k t170 a1 l2 t169 (t170.length : Int) t175 true)) else (none)) else (none))) else (none)) else (none)) else (endonymlaw4_TrieBuilds.j0 k t170 a1 l2 t169 (t170.length : Int) t175 true)))) else (endonymlaw4_TrieBuilds.j0 k t170 a1 l2 t169 (t170.length : Int) t175 true)) else (endonymlaw4_TrieBuilds.j0 k t170 a1 l2 t169 (t170.length : Int) t175 true)) else (endonymlaw4_TrieBuilds.j0 k t170 a1 l2 t169 (t170.length : Int) t175 true)) = some true := H
  have A13 := Aside0.mk A130
  clear A130
  by_cases c14 : t182 = true
  ·subst c14
   have H1 : (if t176 = t180 then (if t177 = t181 then (if ((t175.isEmpty) != (t181 != 0)) = true then (endonymlaw4_TrieBuilds.j0 k t170 a1 l2 t169 (t170.length : Int) t175 true) else ((endonymref4_Same.f k t169 t170).bind fun t183 => (if t183 = true then (if 0 ≤ (wrap64 ((t170.length : Int) + 2)) then (if (wrap64 ((t170.length : Int) + 2)) ≤ ((t170 ++ MK4).length : Int) then ((some ((t170 ++ MK4).take ((wrap64 ((t170.length : Int) + 2)) : Int).toNat : List (S35))).bind fun y184 => (if 0 ≤ (t170.length : Int) then (if (t170.length : Int) < (y184.length : Int) then (if ((rd_T35 y184 (t170.length : Int)).f0) = (-7) then ((some ((t170 ++ MK4).take ((wrap64 ((t170.length : Int) + 2)) : Int).toNat : List (S35))).bind fun y189 => (if 0 ≤ (wrap64 ((t170.length : Int) + 1)) then (if (wrap64 ((t170.length : Int) + 1)) < (y189.length : Int) then (endonymlaw4_TrieBuilds.j0 k t170 a1 l2 t169 (t170.length : Int) t175 (((rd_T35 y189 (wrap64 ((t170.length : Int) + 1))).f0) != (-8))) else (none)) else (none))) else (endonymlaw4_TrieBuilds.j0 k t170 a1 l2 t169 (t170.length : Int) t175 true)) else (none)) else (none))) else (none)) else (none)) else (endonymlaw4_TrieBuilds.j0 k t170 a1 l2 t169 (t170.length : Int) t175 true)))) else (endonymlaw4_TrieBuilds.j0 k t170 a1 l2 t169 (t170.length : Int) t175 true)) else (endonymlaw4_TrieBuilds.j0 k t170 a1 l2 t169 (t170.length : Int) t175 true)) = some true := by rw [if_pos rfl] at H; exact H
   clear H
   have H := H1
   clear H1
   by_cases c15 : t176 = t180
   ·rw [if_pos c15] at H
    have c15b0 : (t176 == t180) = true := beq_iff_eq.mpr c15
    have c15b1 : (t176 != t180) = false := bne_eq_false_iff_eq.mpr c15
    clear c15
    (first | rw [c15b0] | (simp only [i64_w, i32_w]; rw [c15b0]) | skip)
    by_cases c16 : t177 = t181
    ·rw [if_pos c16] at H
     have c16b0 : (t177 == t181) = true := beq_iff_eq.mpr c16
     have c16b1 : (t177 != t181) = false := bne_eq_false_iff_eq.mpr c16
     clear c16
     by_cases c17 : ((t175.isEmpty) != (t181 != 0)) = true
     ·rw [if_pos c17] at H
      have c17b0 : ((t175.isEmpty) != (t181 != 0)) = true := c17
      (try (have c17b1 : decide ((t175.isEmpty) = (t181 != 0)) = false := by simpa using c17))
      (try (have c17b2 : ((t175.isEmpty) == (t181 != 0)) = false := by simpa using c17))
      (try (have c17b3 : ¬ ((t175.isEmpty) = (t181 != 0)) := by simpa using c17))
      clear c17
      exact (endonymlaw4_TrieBuilds.j0_no H).elim
     ·rw [if_neg c17] at H
      have c17b0 : ((t175.isEmpty) != (t181 != 0)) = false := by simpa using c17
      (try (have c17b1 : decide ((t175.isEmpty) = (t181 != 0)) = true := by simpa using c17))
      (try (have c17b2 : ((t175.isEmpty) == (t181 != 0)) = true := by simpa using c17))
      clear c17
      replace H := Option.bind_eq_some_iff.mp H
      obtain ⟨t183, A180, H⟩ := H
      replace H : (if t183 = true then (if 0 ≤ (wrap64 ((t170.length : Int) + 2)) then (if (wrap64 ((t170.length : Int) + 2)) ≤ ((t170 ++ MK4).length : Int) then ((some ((t170 ++ MK4).take ((wrap64 ((t170.length : Int) + 2)) : Int).toNat : List (S35))).bind fun y184 => (if 0 ≤ (t170.length : Int) then (if (t170.length : Int) < (y184.length : Int) then (if ((rd_T35 y184 (t170.length : Int)).f0) = (-7) then ((some ((t170 ++ MK4).take ((wrap64 ((t170.length : Int) + 2)) : Int).toNat : List (S35))).bind fun y189 => (if 0 ≤ (wrap64 ((t170.length : Int) + 1)) then (if (wrap64 ((t170.length : Int) + 1)) < (y189.length : Int) then (endonymlaw4_TrieBuilds.j0 k t170 a1 l2 t169 (t170.length : Int) t175 (((rd_T35 y189 (wrap64 ((t170.length : Int) + 1))).f0) != (-8))) else (none)) else (none))) else (endonymlaw4_TrieBuilds.j0 k t170 a1 l2 t169 (t170.length : Int) t175 true)) else (none)) else (none))) else (none)) else (none)) else (endonymlaw4_TrieBuilds.j0 k t170 a1 l2 t169 (t170.length : Int) t175 true)) = some true := H
      have A18 := Aside0.mk A180
      clear A180
      by_cases c19 : t183 = true
      ·subst c19
       have H1 : (if 0 ≤ (wrap64 ((t170.length : Int) + 2)) then (if (wrap64 ((t170.length : Int) + 2)) ≤ ((t170 ++ MK4).length : Int) then ((some ((t170 ++ MK4).take ((wrap64 ((t170.length : Int) + 2)) : Int).toNat : List (S35))).bind fun y184 => (if 0 ≤ (t170.length : Int) then (if (t170.length : Int) < (y184.length : Int) then (if ((rd_T35 y184 (t170.length : Int)).f0) = (-7) then ((some ((t170 ++ MK4).take ((wrap64 ((t170.length : Int) + 2)) : Int).toNat : List (S35))).bind fun y189 => (if 0 ≤ (wrap64 ((t170.length : Int) + 1)) then (if (wrap64 ((t170.length : Int) + 1)) < (y189.length : Int) then (endonymlaw4_TrieBuilds.j0 k t170 a1 l2 t169 (t170.length : Int) t175 (((rd_T35 y189 (wrap64 ((t170.length : Int) + 1))).f0) != (-8))) else (none)) else (none))) else (endonymlaw4_TrieBuilds.j0 k t170 a1 l2 t169 (t170.length : Int) t175 true)) else (none)) else (none))) else (none)) else (none)) = some true := by rw [if_pos rfl] at H; exact H
       clear H
       have H := H1
       clear H1
       obtain ⟨ji20, hji20⟩ : ∃ j_ : Int, (wrap64 ((t170.length : Int) + 2)) = j_ := ⟨_, rfl⟩
       replace H : (if 0 ≤ (ji20) then (if (ji20) ≤ ((t170 ++ MK4).length : Int) then ((some ((t170 ++ MK4).take ((ji20) : Int).toNat : List (S35))).bind fun y184 => (if 0 ≤ (t170.length : Int) then (if (t170.length : Int) < (y184.length : Int) then (if ((rd_T35 y184 (t170.length : Int)).f0) = (-7) then ((some ((t170 ++ MK4).take ((ji20) : Int).toNat : List (S35))).bind fun y189 => (if 0 ≤ (wrap64 ((t170.length : Int) + 1)) then (if (wrap64 ((t170.length : Int) + 1)) < (y189.length : Int) then (endonymlaw4_TrieBuilds.j0 k t170 a1 l2 t169 (t170.length : Int) t175 (((rd_T35 y189 (wrap64 ((t170.length : Int) + 1))).f0) != (-8))) else (none)) else (none))) else (endonymlaw4_TrieBuilds.j0 k t170 a1 l2 t169 (t170.length : Int) t175 true)) else (none)) else (none))) else (none)) else (none)) = some true := by first | (rw [hji20] at H; exact H) | (simp only [hji20] at H ⊢; exact H)
       (try rw [hji20] at A13)
       (try rw [hji20] at A18)
       have hji20w : (IntKind.i64.wrap ((t170.length : Int) + 2)) = ji20 := (i64_w _).trans hji20
       by_cases c21 : 0 ≤ (ji20)
       ·rw [if_pos c21] at H
        have c21b0 := eq_true c21
        have c21b1 : decide (0 ≤ (ji20)) = true := decide_eq_true c21
        clear c21
        by_cases c22 : (ji20) ≤ ((t170 ++ MK4).length : Int)
        ·rw [if_pos c22] at H
         have c22b0 := eq_true c22
         have c22b1 : decide ((ji20) ≤ ((t170 ++ MK4).length : Int)) = true := decide_eq_true c22
         clear c22
         obtain ⟨y184, hy184⟩ : ∃ y_ : List (S35), y_ = ((t170 ++ MK4).take ((ji20) : Int).toNat) := ⟨_, rfl⟩
         replace H : (if 0 ≤ (t170.length : Int) then (if (t170.length : Int) < (y184.length : Int) then (if ((rd_T35 y184 (t170.length : Int)).f0) = (-7) then ((some ((t170 ++ MK4).take ((ji20) : Int).toNat : List (S35))).bind fun y189 => (if 0 ≤ (wrap64 ((t170.length : Int) + 1)) then (if (wrap64 ((t170.length : Int) + 1)) < (y189.length : Int) then (endonymlaw4_TrieBuilds.j0 k t170 a1 l2 t169 (t170.length : Int) t175 (((rd_T35 y189 (wrap64 ((t170.length : Int) + 1))).f0) != (-8))) else (none)) else (none))) else (endonymlaw4_TrieBuilds.j0 k t170 a1 l2 t169 (t170.length : Int) t175 true)) else (none)) else (none)) = some true := by first | (rw [hy184]; with_reducible exact H) | (have H2_ := (Option.bind_some _ _).symm.trans H; rw [hy184]; with_reducible exact H2_) | (have H2_ := (Option.bind_some _ _).symm.trans H; with_reducible exact H2_) | with_reducible exact H | (rw [hy184]; exact H) | exact H
         have Ny184 := Aside0.mk hy184
         clear hy184
         by_cases c23 : 0 ≤ (t170.length : Int)
         ·rw [if_pos c23] at H
          have c23b0 : decide (0 ≤ (t170.length : Int)) = true := decide_eq_true c23
          have c23b1 : decide (0 ≤ t170.length) = true := decide_eq_true (by omega)
          clear c23
          by_cases c24 : (t170.length : Int) < (y184.length : Int)
          ·rw [if_pos c24] at H
           have c24b0 : decide ((t170.length : Int) < (y184.length : Int)) = true := decide_eq_true c24
           have c24b1 : decide (t170.length < y184.length) = true := decide_eq_true (Int.ofNat_lt.mp c24)
           clear c24
           by_cases c25 : ((rd_T35 y184 (t170.length : Int)).f0) = (-7)
           ·rw [if_pos c25] at H
            have c25b0 : (((rd_T35 y184 (t170.length : Int)).f0) == (-7)) = true := beq_iff_eq.mpr c25
            have c25b1 : (((rd_T35 y184 (t170.length : Int)).f0) != (-7)) = false := bne_eq_false_iff_eq.mpr c25
            clear c25
            have c26b0 := eq_true (of_decide_eq_true (by first | (with_reducible assumption) | assumption) : 0 ≤ (ji20))
            have c27b0 := eq_true (of_decide_eq_true (by first | (with_reducible assumption) | assumption) : (ji20) ≤ ((t170 ++ MK4).length : Int))
            obtain ⟨y189, hy189⟩ : ∃ y_ : List (S35), y_ = ((t170 ++ MK4).take ((ji20) : Int).toNat) := ⟨_, rfl⟩
            replace H : (if 0 ≤ (wrap64 ((t170.length : Int) + 1)) then (if (wrap64 ((t170.length : Int) + 1)) < (y189.length : Int) then (endonymlaw4_TrieBuilds.j0 k t170 a1 l2 t169 (t170.length : Int) t175 (((rd_T35 y189 (wrap64 ((t170.length : Int) + 1))).f0) != (-8))) else (none)) else (none)) = some true := by first | (rw [hy189]; with_reducible exact H) | (have H2_ := (Option.bind_some _ _).symm.trans H; rw [hy189]; with_reducible exact H2_) | (have H2_ := (Option.bind_some _ _).symm.trans H; with_reducible exact H2_) | with_reducible exact H | (rw [hy189]; exact H) | exact H
            have Ny189 := Aside0.mk hy189
            clear hy189
            obtain ⟨ji28, hji28⟩ : ∃ j_ : Int, (wrap64 ((t170.length : Int) + 1)) = j_ := ⟨_, rfl⟩
            replace H : (if 0 ≤ (ji28) then (if (ji28) < (y189.length : Int) then (endonymlaw4_TrieBuilds.j0 k t170 a1 l2 t169 (t170.length : Int) t175 (((rd_T35 y189 (ji28)).f0) != (-8))) else (none)) else (none)) = some true := by first | (rw [hji28] at H; exact H) | (simp only [hji28] at H ⊢; exact H)
            (try rw [hji28] at A13)
            (try rw [hji28] at A18)
            have hji28w : (IntKind.i64.wrap ((t170.length : Int) + 1)) = ji28 := (i64_w _).trans hji28
            by_cases c29 : 0 ≤ (ji28)
            ·rw [if_pos c29] at H
             have c29b0 : decide (0 ≤ (ji28)) = true := decide_eq_true c29
             clear c29
             by_cases c30 : (ji28) < (y189.length : Int)
             ·rw [if_pos c30] at H
              have c30b0 : decide ((ji28) < (y189.length : Int)) = true := decide_eq_true c30
              clear c30
              have H' := Aside0.mk H
              clear H
              go_wp2_with (first | ((with_reducible refine gate_callee (f := 11) rfl ?_); refine goesL_ (some 36) rfl rfl Try.func11 (by kernel_rfl) rfl #[] rfl (by (try simp only [List.map_toArray, List.map_cons, List.map_nil]); first | done | rfl | (simp only [List.length_drop, List.length_take]; rfl)) ?_; (with_reducible refine (endonymlaw4_told.calls k  true _ A13.out).mono ?_); rintro e w31 ⟨rfl, hb⟩; have hm_ := Aside0.mk (And.intro (Kd.C_below (by repeat (first | (with_reducible exact HMK.out.1) | (with_reducible refine Kd.C_alloc ?_ _) | (with_reducible refine Kd.C_drewN ?_ _) | (with_reducible refine Kd.C_drew ?_) | exact HMK.out.1)) hb) HMK.out.2); clear HMK; have HMK := hm_; clear hm_; refine ⟨_, rfl, ?_⟩; have n0_ := Aside0.mk (Kd.R_below (by (with_reducible repeat (first | apply Kd.R_alloc | apply Kd.R_drewN | apply Kd.R_drew)); first | exact HO172.out | exact Kd.R_mono HO172.out (fun _ hk => (by first | exact hk | exact fun e_ => hk (e_.trans (own_len _ _ _ _ _))))) hb); have n1_ := Aside0.mk (Kd.R_below (by (with_reducible repeat (first | apply Kd.R_alloc | apply Kd.R_drewN | apply Kd.R_drew)); first | exact HO174.out | exact Kd.R_mono HO174.out (fun _ hk => (by first | exact hk | exact fun e_ => hk (e_.trans (own_len _ _ _ _ _))))) hb); have n2_ := Aside0.mk (Kd.P_below (by (with_reducible repeat (first | apply Kd.P_alloc | apply Kd.P_drewN | apply Kd.P_drew)); exact HO179.out) hb); have n3_ := Aside0.mk (below_step (by repeat (first | (with_reducible first | exact HB.out | apply below_alloc | apply pw_below_drewN | apply below_drew1) | exact HB.out)) hb); clear HO172; clear HO174; clear HO179; clear HB; have HO172 := n0_; have HO174 := n1_; have HO179 := n2_; have HB := n3_; clear n0_ n1_ n2_ n3_; (try clear hb); (try clear hb2); (try clear hk); (try clear hi); obtain ⟨Ao32, co32, eo32⟩ := Kd.P_slice HO179.out; subst eo32; have hz33 := Kd.PC_isNone ((Kd.P_reads' HO179.out).2.2)) | (go_at_call 12; (with_reducible refine (endonymref4_Same.calls k _ _ t169 _ _ t170 true _ ?side1 ?side2 ?side3 ?side4 A18.out).mono ?_); (case side1 => repeat (first | exact (Kd.R_reads' HO172.out).2.2 | (with_reducible refine Kd.C_alloc ?_ _) | (with_reducible refine Kd.C_drewN ?_ _) | (with_reducible refine Kd.C_drew ?_))); (case side2 => exact (Kd.R_reads' HO172.out).2.1); (case side3 => repeat (first | exact (Kd.R_reads' HO174.out).2.2 | (with_reducible refine Kd.C_alloc ?_ _) | (with_reducible refine Kd.C_drewN ?_ _) | (with_reducible refine Kd.C_drew ?_))); (case side4 => exact (Kd.R_reads' HO174.out).2.1); rintro e w' ⟨rfl, ⟨nd, rfl⟩⟩; have q34 : ((ji20) : Int) ≤ (((t170 ++ MK4).length : Int) : Int) := of_decide_eq_true (by first | (with_reducible assumption) | assumption); obtain ⟨i034, hi034, _, hsz34, _⟩ := info_parts info35; have hroom34 : (t170 ++ MK4).length ≤ co10 := HMK.out.2; have hC34 : Kd.C k35 _ Ao10 (t170 ++ MK4).length (t170 ++ MK4) := HMK.out.1; have hcut34 := cut_up (P := Try.prog) 22 35 .i64 Try.underlying22 hi034 Ao10 t169.length co10 (ji20) (of_decide_eq_true (by first | (with_reducible assumption) | assumption)) q34 hroom34; have hr34 := Kd.C_take (m := ((ji20) : Int).toNat) hC34 (by omega); have hy34 : y184.length = ((ji20) : Int).toNat := (by rw [Ny184.out, List.length_take]; omega); rw [← Ny184.out] at hr34; rw [← hy34] at hcut34; have HR187 := Aside0.mk hr34; have HC187 := Aside0.mk (show y184.length ≤ co10 from by omega); clear hr34 hC34 hroom34 hi034 hsz34; have KY34 := Aside0.mk hy34; clear hy34; have KL34 := Aside0.mk (show ((ji20) : Int).toNat ≤ (t170 ++ MK4).length from by omega); replace q34 := eq_true q34; have p188 : 0 ≤ ((t170.length : Int) : Int) := of_decide_eq_true (by first | (with_reducible assumption) | assumption); have q188 : (t170.length : Int) < (y184.length : Int) := of_decide_eq_true (by first | (with_reducible assumption) | assumption); obtain ⟨ad188, e188, hx188_0, hx188_1, hx188_2⟩ := at_T35 (by repeat (first | (with_reducible exact HR187.out) | (with_reducible refine Kd.C_alloc ?_ _) | (with_reducible refine Kd.C_drewN ?_ _) | (with_reducible refine Kd.C_drew ?_) | exact HR187.out)) (t170.length : Int) p188 q188; cases e188; (try simp only [Go.IntWalk.toNatUp] at hx188_0); (try simp only [Go.IntWalk.toNatUp] at hx188_1); (try simp only [Go.IntWalk.toNatUp] at hx188_2); replace p188 := eq_true p188; replace q188 := eq_true q188; have q35 : ((ji20) : Int) ≤ (((t170 ++ MK4).length : Int) : Int) := of_decide_eq_true (by first | (with_reducible assumption) | assumption); obtain ⟨i035, hi035, _, hsz35, _⟩ := info_parts info35; have hroom35 : (t170 ++ MK4).length ≤ co10 := HMK.out.2; have hC35 : Kd.C k35 _ (some ad188) (t170 ++ MK4).length (t170 ++ MK4) := HMK.out.1; have hcut35 := cut_up (P := Try.prog) 22 35 .i64 Try.underlying22 hi035 (some ad188) t169.length co10 (ji20) (of_decide_eq_true (by first | (with_reducible assumption) | assumption)) q35 hroom35; have hr35 := Kd.C_take (m := ((ji20) : Int).toNat) hC35 (by omega); have hy35 : y189.length = ((ji20) : Int).toNat := (by rw [Ny189.out, List.length_take]; omega); rw [← Ny189.out] at hr35; rw [← hy35] at hcut35; have HR192 := Aside0.mk hr35; have HC192 := Aside0.mk (show y189.length ≤ co10 from by omega); clear hr35 hC35 hroom35 hi035 hsz35; have KY35 := Aside0.mk hy35; clear hy35; have KL35 := Aside0.mk (show ((ji20) : Int).toNat ≤ (t170 ++ MK4).length from by omega); replace q35 := eq_true q35; have p193 : 0 ≤ ((ji28) : Int) := of_decide_eq_true (by first | (with_reducible assumption) | assumption); have q193 : (ji28) < (y189.length : Int) := of_decide_eq_true (by first | (with_reducible assumption) | assumption); obtain ⟨ad193, e193, hx193_0, hx193_1, hx193_2⟩ := at_T35 (by repeat (first | (with_reducible exact HR192.out) | (with_reducible refine Kd.C_alloc ?_ _) | (with_reducible refine Kd.C_drewN ?_ _) | (with_reducible refine Kd.C_drew ?_) | exact HR192.out)) (ji28) p193 q193; obtain rfl : ad188 = ad193 := (by injection e193); replace p193 := eq_true p193; replace q193 := eq_true q193; have q193b : (ji28 < (y184.length : Int)) = True := (by have e_ : y184 = y189 := Ny184.out.trans Ny189.out.symm; rw [e_]; exact q193)))
              go_meet
              case rel => exact ⟨_, ((((rd_T35 y189 (ji28)).f0) != (-8))), (by first | rfl | (simp; done) | (simp only [← hji28] <;> (first | rfl | simp)) | (simp [*]; done)), H', ⟨by first | omega | exact Nat.le_refl _⟩, ⟨by (with_reducible repeat (first | apply Kd.R_alloc | apply Kd.R_drewN | apply Kd.R_drew)); first | exact HO174.out | exact Kd.R_mono HO174.out (fun _ hk => (by first | exact hk | exact fun e_ => hk (e_.trans (own_len _ _ _ _ _))))⟩, ⟨by (with_reducible repeat (first | apply Kd.R_alloc | apply Kd.R_drewN | apply Kd.R_drew)); first | exact HO172.out | exact Kd.R_mono HO172.out (fun _ hk => (by first | exact hk | exact fun e_ => hk (e_.trans (own_len _ _ _ _ _))))⟩, ⟨by (with_reducible repeat (first | apply Kd.P_alloc | apply Kd.P_drewN | apply Kd.P_drew)); exact HO179.out⟩, ⟨by repeat (first | (with_reducible first | exact HB.out | apply below_alloc | apply pw_below_drewN | apply below_drew1) | exact HB.out)⟩⟩
             ·rw [if_neg c30] at H
              exact absurd H (by simp)
            ·rw [if_neg c29] at H
             exact absurd H (by simp)
           ·rw [if_neg c25] at H
            have c25b0 : (((rd_T35 y184 (t170.length : Int)).f0) == (-7)) = false := beq_eq_false_iff_ne.mpr c25
            have c25b1 : (((rd_T35 y184 (t170.length : Int)).f0) != (-7)) = true := bne_iff_ne.mpr c25
            exact (endonymlaw4_TrieBuilds.j0_no H).elim
          ·rw [if_neg c24] at H
           exact absurd H (by simp)
         ·rw [if_neg c23] at H
          exact absurd H (by simp)
        ·rw [if_neg c22] at H
         exact absurd H (by simp)
       ·rw [if_neg c21] at H
        exact absurd H (by simp)
      ·replace c19 := Bool.eq_false_iff.mpr c19
       subst c19
       have H1 : (endonymlaw4_TrieBuilds.j0 k t170 a1 l2 t169 (t170.length : Int) t175 true) = some true := by rw [if_neg (show ¬ (false = true) by decide)] at H; exact H
       clear H
       have H := H1
       clear H1
       exact (endonymlaw4_TrieBuilds.j0_no H).elim
    ·rw [if_neg c16] at H
     have c16b0 : (t177 == t181) = false := beq_eq_false_iff_ne.mpr c16
     have c16b1 : (t177 != t181) = true := bne_iff_ne.mpr c16
     exact (endonymlaw4_TrieBuilds.j0_no H).elim
   ·rw [if_neg c15] at H
    have c15b0 : (t176 == t180) = false := beq_eq_false_iff_ne.mpr c15
    have c15b1 : (t176 != t180) = true := bne_iff_ne.mpr c15
    (first | rw [c15b0] | (simp only [i64_w, i32_w]; rw [c15b0]) | skip)
    exact (endonymlaw4_TrieBuilds.j0_no H).elim
  ·replace c14 := Bool.eq_false_iff.mpr c14
   subst c14
   have H1 : (endonymlaw4_TrieBuilds.j0 k t170 a1 l2 t169 (t170.length : Int) t175 true) = some true := by rw [if_neg (show ¬ (false = true) by decide)] at H; exact H
   clear H
   have H := H1
   clear H1
   exact (endonymlaw4_TrieBuilds.j0_no H).elim
 case rest =>
  clear HC7
  (try clear c1); (try clear p1); (try clear q1); (try clear hx1); (try clear c2); (try clear p2); (try clear c3); (try clear q3); (try clear p6); (try clear c8); (try clear c9); (try clear c10); (try clear c11); (try clear c14); (try clear c15); (try clear c15b0); (try clear c15b1); (try clear c16); (try clear c16b0); (try clear c16b1); (try clear c17); (try clear c17b0); (try clear c17b1); (try clear c17b2); (try clear p18); (try clear q18); (try clear hx18); (try clear c19); (try clear p19); (try clear q19); (try clear hx19); (try clear c21); (try clear c21b0); (try clear c21b1); (try clear c22); (try clear c22b0); (try clear c22b1); (try clear c23); (try clear c23b0); (try clear c23b1); (try clear c24); (try clear c24b0); (try clear c24b1); (try clear c25); (try clear c25b0); (try clear c25b1); (try clear c26); (try clear c26b0); (try clear c27); (try clear c27b0); (try clear c29); (try clear c29b0); (try clear c30); (try clear c30b0); (try clear q34); (try clear q35); (try clear hx188_0); (try clear hx188_1); (try clear hx188_2); (try clear hx193_0); (try clear hx193_1); (try clear hx193_2); (try clear p188); (try clear p193); (try clear q188); (try clear q193); (try clear q34); (try clear q35)
  obtain ⟨kq, x83_6, rfl, HA, HJ6, HO_0, HO_7, HO_9, HB⟩ := hcut
  cases kq with
  | zero => exact absurd HA.out (by simp [endonymlaw4_TrieBuilds.j0])
  | succ kj6 =>
   have H := HA.out
   clear HA
   simp only [endonymlaw4_TrieBuilds.j0] at H
   by_cases c36 : x83_6 = true
   ·subst c36
    have H1 : (some false) = some true := by rw [if_pos rfl] at H; exact H
    clear H
    have H := H1
    clear H1
    exact absurd H (by simp)
   ·replace c36 := Bool.eq_false_iff.mpr c36
    subst c36
    have H1 : (if (t175.isEmpty) = true then (some true) else (endonymlaw4_TrieBuilds.l0 kj6 t170 a1 l2 t169 (t170.length : Int) t175 0)) = some true := by rw [if_neg (show ¬ (false = true) by decide)] at H; exact H
    clear H
    have H := H1
    clear H1
    by_cases c37 : (t175.isEmpty) = true
    ·rw [if_pos c37] at H
     have c37b0 : (t175.isEmpty) = true := c37
     clear c37
     have hR_ := Option.some.inj H
     obtain ⟨Ao38, co38, eo38⟩ := Kd.P_slice HO_9.out
     subst eo38
     have hz39 := Kd.PC_isNone ((Kd.P_reads' HO_9.out).2.2)
     go_wp2
     go_ret
     exact ⟨by first | rfl | (rw [← hR_]; first | rfl | (simp only [hR_]; rfl)) | (simp only [hR_]; rfl) | (simp only [hR_]; done) | (simp [errW_none, errW_some] <;> rfl) | (simp [*, errW_none, errW_some] <;> rfl), by repeat (first | (with_reducible first | exact HB.out | apply below_alloc | apply pw_below_drewN | apply below_drew1) | exact HB.out)⟩
    ·rw [if_neg c37] at H
     have c37b0 : (t175.isEmpty) = false := by simpa using c37
     clear c37
     have H' := Aside0.mk H
     clear H
     obtain ⟨Ao40, co40, eo40⟩ := Kd.P_slice HO_9.out
     subst eo40
     have hz41 := Kd.PC_isNone ((Kd.P_reads' HO_9.out).2.2)
     go_wp2
     go_loopg [14] kj6 (fun kq v14 w' => ∃ (x7_2 : List (S35)) (x14_2 : Int), v14 = .int .i64 x14_2 ∧ Aside0 (endonymlaw4_TrieBuilds.l0 kq t170 a1 l2 x7_2 (t170.length : Int) t175 x14_2 = some true) ∧ Aside0 (kq ≤ kj6) ∧ Aside0 (Kd.R k35 35 w' w.heap.size (fun k_ => some k_ ≠ ((.slice Ao10 t169.length co10) : Value).ownBlock) (.slice Ao9 t170.length co9) t170) ∧ Aside0 (Kd.R k35 35 w' w.heap.size (fun k_ => some k_ ≠ ((.slice Ao9 t170.length co9) : Value).ownBlock) (.slice Ao10 t169.length co10) x7_2) ∧ Aside0 (Kd.P k57 57 w' w.heap.size (fun _ => True) (.pointer Ao40) t175) ∧ Aside0 (Below w.heap.size w w'))
     case atStart => exact ⟨(t169), (0), (by first | rfl | (simp; done) | (simp [*]; done)), H', ⟨Nat.le_refl _⟩, ⟨by (with_reducible repeat (first | apply Kd.R_alloc | apply Kd.R_drewN | apply Kd.R_drew)); first | exact HO_0.out | exact Kd.R_mono HO_0.out (fun _ hk => (by first | exact hk | exact fun e_ => hk (e_.trans (own_len _ _ _ _ _))))⟩, ⟨by (with_reducible repeat (first | apply Kd.R_alloc | apply Kd.R_drewN | apply Kd.R_drew)); first | exact HO_7.out | exact Kd.R_mono HO_7.out (fun _ hk => (by first | exact hk | exact fun e_ => hk (e_.trans (own_len _ _ _ _ _))))⟩, ⟨by (with_reducible repeat (first | apply Kd.P_alloc | apply Kd.P_drewN | apply Kd.P_drew)); exact HO_9.out⟩, ⟨by repeat (first | (with_reducible first | exact HB.out | apply below_alloc | apply pw_below_drewN | apply below_drew1) | exact HB.out)⟩⟩
     case round =>
      clear H'
      (try clear c1); (try clear p1); (try clear q1); (try clear hx1); (try clear c2); (try clear p2); (try clear c3); (try clear q3); (try clear p6); (try clear c8); (try clear c9); (try clear c10); (try clear c11); (try clear c14); (try clear c15); (try clear c15b0); (try clear c15b1); (try clear c16); (try clear c16b0); (try clear c16b1); (try clear c17); (try clear c17b0); (try clear c17b1); (try clear c17b2); (try clear p18); (try clear q18); (try clear hx18); (try clear c19); (try clear p19); (try clear q19); (try clear hx19); (try clear c21); (try clear c21b0); (try clear c21b1); (try clear c22); (try clear c22b0); (try clear c22b1); (try clear c23); (try clear c23b0); (try clear c23b1); (try clear c24); (try clear c24b0); (try clear c24b1); (try clear c25); (try clear c25b0); (try clear c25b1); (try clear c26); (try clear c26b0); (try clear c27); (try clear c27b0); (try clear c29); (try clear c29b0); (try clear c30); (try clear c30b0); (try clear q34); (try clear q35); (try clear c36); (try clear c37); (try clear c37b0); (try clear hx188_0); (try clear hx188_1); (try clear hx188_2); (try clear hx193_0); (try clear hx193_1); (try clear hx193_2); (try clear p1); (try clear p18); (try clear p188); (try clear p19); (try clear p193); (try clear p2); (try clear p6); (try clear q1); (try clear q18); (try clear q188); (try clear q19); (try clear q193); (try clear q3); (try clear q34); (try clear q35)
      obtain ⟨x7_2, x14_2, rfl, HA, HK2, HO_0, HO_7, HO_9, HB⟩ := hrel
      have hl7_2 := (Kd.R_reads' HO_7.out).1
      rw [hl7_2] at HO_7
      (try simp only [hl7_2])
      (try simp only [hl7_2] at HO_0)
      (try simp only [hl7_2] at HO_9)
      cases gk with
      | zero => exact absurd HA.out (by simp [endonymlaw4_TrieBuilds.l0])
      | succ k2 =>
       have H := HA.out
       clear HA
       simp only [endonymlaw4_TrieBuilds.l0] at H
       by_cases c42 : x14_2 < (t170.length : Int)
       ·rw [if_pos c42] at H
        have c42b0 : decide (x14_2 < (t170.length : Int)) = true := decide_eq_true c42
        have c42b0_h := c42b0
        (try simp only [hl7_2] at c42b0_h)
        clear c42
        by_cases c43 : 0 ≤ x14_2
        ·rw [if_pos c43] at H
         have c43b0 : decide (0 ≤ x14_2) = true := decide_eq_true c43
         clear c43
         by_cases c44 : x14_2 < (x7_2.length : Int)
         ·rw [if_pos c44] at H
          have c44b0 : decide (x14_2 < (x7_2.length : Int)) = true := decide_eq_true c44
          have c44b0_h := c44b0
          (try simp only [hl7_2] at c44b0_h)
          clear c44
          obtain ⟨y194, hy194⟩ : ∃ y_ : List (S35), y_ = (x7_2.set (x14_2 : Int).toNat (⟨0, 1114111, 9⟩ : S35)) := ⟨_, rfl⟩
          replace H : (if x14_2 < (t170.length : Int) then ((trie_Trie_Get.f t175 ((rd_T35 t170 x14_2).f0)).bind fun t196 => ((endonymref4_Get.f k2 t170 a1 ((rd_T35 t170 x14_2).f0)).bind fun t198 => (if t196 = t198 then ((trie_Trie_Get.f t175 ((rd_T35 t170 x14_2).f1)).bind fun t200 => ((endonymref4_Get.f k2 t170 a1 ((rd_T35 t170 x14_2).f1)).bind fun t202 => (if t200 = t202 then ((trie_Trie_Get.f t175 (wrap64 (((rd_T35 t170 x14_2).f0) - 1))).bind fun t204 => ((endonymref4_Get.f k2 t170 a1 (wrap64 (((rd_T35 t170 x14_2).f0) - 1))).bind fun t206 => (if t204 = t206 then ((trie_Trie_Get.f t175 (wrap64 (((rd_T35 t170 x14_2).f1) + 1))).bind fun t208 => ((endonymref4_Get.f k2 t170 a1 (wrap64 (((rd_T35 t170 x14_2).f1) + 1))).bind fun t210 => (if t208 = t210 then (endonymlaw4_TrieBuilds.l0 k2 t170 a1 l2 y194 (t170.length : Int) t175 (wrap64 (x14_2 + 1))) else (some false)))) else (some false)))) else (some false)))) else (some false)))) else (none)) = some true := by first | (rw [hy194]; with_reducible exact H) | (have H2_ := (Option.bind_some _ _).symm.trans H; rw [hy194]; with_reducible exact H2_) | (have H2_ := (Option.bind_some _ _).symm.trans H; with_reducible exact H2_) | with_reducible exact H | (rw [hy194]; exact H) | exact H
          have Ny194 := Aside0.mk hy194
          clear hy194
          by_cases c46 : x14_2 < (t170.length : Int)
          ·rw [if_pos c46] at H
           have c46b0 : decide (x14_2 < (t170.length : Int)) = true := decide_eq_true c46
           have c46b0_h := c46b0
           (try simp only [hl7_2] at c46b0_h)
           clear c46
           replace H := Option.bind_eq_some_iff.mp H
           obtain ⟨t196, A470, H⟩ := H
           replace H : ((endonymref4_Get.f k2 t170 a1 ((rd_T35 t170 x14_2).f0)).bind fun t198 => (if t196 = t198 then ((trie_Trie_Get.f t175 ((rd_T35 t170 x14_2).f1)).bind fun t200 => ((endonymref4_Get.f k2 t170 a1 ((rd_T35 t170 x14_2).f1)).bind fun t202 => (if t200 = t202 then ((trie_Trie_Get.f t175 (wrap64 (((rd_T35 t170 x14_2).f0) - 1))).bind fun t204 => ((endonymref4_Get.f k2 t170 a1 (wrap64 (((rd_T35 t170 x14_2).f0) - 1))).bind fun t206 => (if t204 = t206 then ((trie_Trie_Get.f t175 (wrap64 (((rd_T35 t170 x14_2).f1) + 1))).bind fun t208 => ((endonymref4_Get.f k2 t170 a1 (wrap64 (((rd_T35 t170 x14_2).f1) + 1))).bind fun t210 => (if t208 = t210 then (endonymlaw4_TrieBuilds.l0 k2 t170 a1 l2 y194 (t170.length : Int) t175 (wrap64 (x14_2 + 1))) else (some false)))) else (some false)))) else (some false)))) else (some false))) = some true := H
           have A47 := Aside0.mk A470
           clear A470
           replace H := Option.bind_eq_some_iff.mp H
           obtain ⟨t198, A480, H⟩ := H
           replace H : (if t196 = t198 then ((trie_Trie_Get.f t175 ((rd_T35 t170 x14_2).f1)).bind fun t200 => ((endonymref4_Get.f k2 t170 a1 ((rd_T35 t170 x14_2).f1)).bind fun t202 => (if t200 = t202 then ((trie_Trie_Get.f t175 (wrap64 (((rd_T35 t170 x14_2).f0) - 1))).bind fun t204 => ((endonymref4_Get.f k2 t170 a1 (wrap64 (((rd_T35 t170 x14_2).f0) - 1))).bind fun t206 => (if t204 = t206 then ((trie_Trie_Get.f t175 (wrap64 (((rd_T35 t170 x14_2).f1) + 1))).bind fun t208 => ((endonymref4_Get.f k2 t170 a1 (wrap64 (((rd_T35 t170 x14_2).f1) + 1))).bind fun t210 => (if t208 = t210 then (endonymlaw4_TrieBuilds.l0 k2 t170 a1 l2 y194 (t170.length : Int) t175 (wrap64 (x14_2 + 1))) else (some false)))) else (some false)))) else (some false)))) else (some false)) = some true := H
           have A48 := Aside0.mk A480
           clear A480
           by_cases c49 : t196 = t198
           ·rw [if_pos c49] at H
            have c49b0 : (t196 == t198) = true := beq_iff_eq.mpr c49
            have c49b1 : (t196 != t198) = false := bne_eq_false_iff_eq.mpr c49
            clear c49
            replace H := Option.bind_eq_some_iff.mp H
            obtain ⟨t200, A500, H⟩ := H
            replace H : ((endonymref4_Get.f k2 t170 a1 ((rd_T35 t170 x14_2).f1)).bind fun t202 => (if t200 = t202 then ((trie_Trie_Get.f t175 (wrap64 (((rd_T35 t170 x14_2).f0) - 1))).bind fun t204 => ((endonymref4_Get.f k2 t170 a1 (wrap64 (((rd_T35 t170 x14_2).f0) - 1))).bind fun t206 => (if t204 = t206 then ((trie_Trie_Get.f t175 (wrap64 (((rd_T35 t170 x14_2).f1) + 1))).bind fun t208 => ((endonymref4_Get.f k2 t170 a1 (wrap64 (((rd_T35 t170 x14_2).f1) + 1))).bind fun t210 => (if t208 = t210 then (endonymlaw4_TrieBuilds.l0 k2 t170 a1 l2 y194 (t170.length : Int) t175 (wrap64 (x14_2 + 1))) else (some false)))) else (some false)))) else (some false))) = some true := H
            have A50 := Aside0.mk A500
            clear A500
            replace H := Option.bind_eq_some_iff.mp H
            obtain ⟨t202, A510, H⟩ := H
            replace H : (if t200 = t202 then ((trie_Trie_Get.f t175 (wrap64 (((rd_T35 t170 x14_2).f0) - 1))).bind fun t204 => ((endonymref4_Get.f k2 t170 a1 (wrap64 (((rd_T35 t170 x14_2).f0) - 1))).bind fun t206 => (if t204 = t206 then ((trie_Trie_Get.f t175 (wrap64 (((rd_T35 t170 x14_2).f1) + 1))).bind fun t208 => ((endonymref4_Get.f k2 t170 a1 (wrap64 (((rd_T35 t170 x14_2).f1) + 1))).bind fun t210 => (if t208 = t210 then (endonymlaw4_TrieBuilds.l0 k2 t170 a1 l2 y194 (t170.length : Int) t175 (wrap64 (x14_2 + 1))) else (some false)))) else (some false)))) else (some false)) = some true := H
            have A51 := Aside0.mk A510
            clear A510
            by_cases c52 : t200 = t202
            ·rw [if_pos c52] at H
             have c52b0 : (t200 == t202) = true := beq_iff_eq.mpr c52
             have c52b1 : (t200 != t202) = false := bne_eq_false_iff_eq.mpr c52
             clear c52
             replace H := Option.bind_eq_some_iff.mp H
             obtain ⟨t204, A530, H⟩ := H
             replace H : ((endonymref4_Get.f k2 t170 a1 (wrap64 (((rd_T35 t170 x14_2).f0) - 1))).bind fun t206 => (if t204 = t206 then ((trie_Trie_Get.f t175 (wrap64 (((rd_T35 t170 x14_2).f1) + 1))).bind fun t208 => ((endonymref4_Get.f k2 t170 a1 (wrap64 (((rd_T35 t170 x14_2).f1) + 1))).bind fun t210 => (if t208 = t210 then (endonymlaw4_TrieBuilds.l0 k2 t170 a1 l2 y194 (t170.length : Int) t175 (wrap64 (x14_2 + 1))) else (some false)))) else (some false))) = some true := H
             have A53 := Aside0.mk A530
             clear A530
             replace H := Option.bind_eq_some_iff.mp H
             obtain ⟨t206, A540, H⟩ := H
             replace H : (if t204 = t206 then ((trie_Trie_Get.f t175 (wrap64 (((rd_T35 t170 x14_2).f1) + 1))).bind fun t208 => ((endonymref4_Get.f k2 t170 a1 (wrap64 (((rd_T35 t170 x14_2).f1) + 1))).bind fun t210 => (if t208 = t210 then (endonymlaw4_TrieBuilds.l0 k2 t170 a1 l2 y194 (t170.length : Int) t175 (wrap64 (x14_2 + 1))) else (some false)))) else (some false)) = some true := H
             have A54 := Aside0.mk A540
             clear A540
             by_cases c55 : t204 = t206
             ·rw [if_pos c55] at H
              have c55b0 : (t204 == t206) = true := beq_iff_eq.mpr c55
              have c55b1 : (t204 != t206) = false := bne_eq_false_iff_eq.mpr c55
              clear c55
              replace H := Option.bind_eq_some_iff.mp H
              obtain ⟨t208, A560, H⟩ := H
              replace H : ((endonymref4_Get.f k2 t170 a1 (wrap64 (((rd_T35 t170 x14_2).f1) + 1))).bind fun t210 => (if t208 = t210 then (endonymlaw4_TrieBuilds.l0 k2 t170 a1 l2 y194 (t170.length : Int) t175 (wrap64 (x14_2 + 1))) else (some false))) = some true := H
              have A56 := Aside0.mk A560
              clear A560
              replace H := Option.bind_eq_some_iff.mp H
              obtain ⟨t210, A570, H⟩ := H
              replace H : (if t208 = t210 then (endonymlaw4_TrieBuilds.l0 k2 t170 a1 l2 y194 (t170.length : Int) t175 (wrap64 (x14_2 + 1))) else (some false)) = some true := H
              have A57 := Aside0.mk A570
              clear A570
              by_cases c58 : t208 = t210
              ·rw [if_pos c58] at H
               have c58b0 : (t208 == t210) = true := beq_iff_eq.mpr c58
               have c58b1 : (t208 != t210) = false := bne_eq_false_iff_eq.mpr c58
               clear c58
               have H' := Aside0.mk H
               clear H
               have p45 : 0 ≤ (x14_2 : Int) := of_decide_eq_true (by first | (with_reducible assumption) | assumption)
               have q45 : (x14_2 : Int) < ((x7_2.length : Int) : Int) := of_decide_eq_true (by first | (with_reducible assumption) | assumption)
               obtain ⟨go45, co45, eo45, gb45, gl45, cl45, HG45⟩ := Kd.R_form HO_7.out (by omega)
               (first | cases eo45 | (injection eo45 with ea_ en_ ec_; (first | subst ea_ | (injection ea_ with ea_; subst ea_)); subst ec_; clear en_))
               have GB45 := Aside0.mk gb45
               have GG45 := Aside0.mk HG45
               clear gb45 gl45 HG45
               obtain ⟨ce45, hcl45, hM45, hcc45, hfr45⟩ := Kd.R_elem HO_7.out z35 (x14_2 : Int) p45 q45
               obtain rfl := k35_openM hM45
               have hx45_0 : wr.cell? ⟨go45, (x14_2 : Int).toNat * 3, none⟩ = some (.int .i64 ((rd_T35 x7_2 x14_2).f0)) := hcc45 0 _ rfl
               have hx45_1 : wr.cell? ⟨go45, (x14_2 : Int).toNat * 3 + 1, none⟩ = some (.int .i64 ((rd_T35 x7_2 x14_2).f1)) := hcc45 1 _ rfl
               have hx45_2 : wr.cell? ⟨go45, (x14_2 : Int).toNat * 3 + 2, none⟩ = some (.int .i64 ((rd_T35 x7_2 x14_2).f2)) := hcc45 2 _ rfl
               have hf45_0 : wr.frozen? ⟨go45, (x14_2 : Int).toNat * 3, none⟩ = false := hfr45 0
               have hf45_1 : wr.frozen? ⟨go45, (x14_2 : Int).toNat * 3 + 1, none⟩ = false := hfr45 1
               have hf45_2 : wr.frozen? ⟨go45, (x14_2 : Int).toNat * 3 + 2, none⟩ = false := hfr45 2
               clear hcl45 hcc45 hfr45 hM45
               replace p45 := eq_true p45
               replace q45 := eq_true q45
               have HX59 := Aside0.mk (show Kd.R k35 35 wr w.heap.size (fun k_ => some k_ ≠ (.slice Ao9 t170.length co9 : Value).ownBlock) (.slice (some ⟨go45, 0, none⟩) x7_2.length co10) x7_2 from (by (with_reducible repeat (first | apply Kd.R_alloc | apply Kd.R_drewN | apply Kd.R_drew)); first | exact HO_7.out | exact Kd.R_mono HO_7.out (fun _ hk => (by first | exact hk | exact fun e_ => hk (e_.trans (own_len _ _ _ _ _))))))
               obtain ⟨ce59, hcl59, hM59, hcc59, hfr59⟩ := Kd.R_elem HX59.out z35 (x14_2 : Int) (of_decide_eq_true (by first | (with_reducible assumption) | assumption)) (by have h_ : (x14_2 : Int) < ((x7_2.length : Int) : Int) := of_decide_eq_true (by first | (with_reducible assumption) | assumption); first | exact h_ | (have e_ := (Kd.R_reads' HO_7.out).1; omega) | simpa using h_)
               obtain rfl := k35_openM hM59
               have HP59 := Kd.R_seg HX59.out (x14_2 : Int) (of_decide_eq_true (by first | (with_reducible assumption) | assumption)) (by have h_ : (x14_2 : Int) < ((x7_2.length : Int) : Int) := of_decide_eq_true (by first | (with_reducible assumption) | assumption); first | exact h_ | (have e_ := (Kd.R_reads' HO_7.out).1; omega) | simpa using h_) (seg := [.int .i64 0, .int .i64 1114111, .int .i64 9]) (j := 0) hcl59 hcc59 (show 3 ≤ 3 from by decide) (x' := (⟨0, 1114111, 9⟩ : S35)) (k35_mkM _ _ _ (⟨0, 1114111, 9⟩ : S35) ) (fun _ hk => hk)
               have hx59_0 := hcc59 0 _ rfl
               (try simp only [show (k35).sz = 3 from rfl, Nat.mul_one, Nat.add_zero] at hx59_0)
               have hf59_0 := hfr59 0
               (try simp only [show (k35).sz = 3 from rfl, Nat.mul_one, Nat.add_zero] at hf59_0)
               have hx59_1 := hcc59 1 _ rfl
               (try simp only [show (k35).sz = 3 from rfl, Nat.mul_one, Nat.add_zero] at hx59_1)
               have hf59_1 := hfr59 1
               (try simp only [show (k35).sz = 3 from rfl, Nat.mul_one, Nat.add_zero] at hf59_1)
               have hx59_2 := hcc59 2 _ rfl
               (try simp only [show (k35).sz = 3 from rfl, Nat.mul_one, Nat.add_zero] at hx59_2)
               have hf59_2 := hfr59 2
               (try simp only [show (k35).sz = 3 from rfl, Nat.mul_one, Nat.add_zero] at hf59_2)
               clear hcl59 hcc59 hfr59 hM59
               try go_wp2_with (first | ((with_reducible refine gate_store (t := 35) (p := 94) rfl ?_); refine store_event (t := 35) (p := 94) (v := ?vo_w60) (w1 := (((wr.setCell ⟨go45, (x14_2 : Int).toNat * 3, none⟩ (.int .i64 0)).setCell ⟨go45, (x14_2 : Int).toNat * 3 + 1, none⟩ (.int .i64 1114111)).setCell ⟨go45, (x14_2 : Int).toNat * 3 + 2, none⟩ (.int .i64 9))) ?hg ?ho ?hn ?hr ?_; (case ho => rfl); (case hg => rfl); (case hn => rfl); (case hr => first | (go_simp; done) | (go_simp; rfl)); intro w60 hw; have hg : wr.grownBy w60 (some go45) := (by rw [hw]; exact HP59.2); have hp_ : Kd.R k35 35 w60 w.heap.size (fun k_ => some k_ ≠ (.slice Ao9 t170.length co9 : Value).ownBlock) (.slice (some ⟨go45, 0, none⟩) x7_2.length co10) y194 := (by rw [hw, Ny194.out]; exact HP59.1); clear HP59; have n0_ := Aside0.mk (Kd.R_after (v := (.slice (some ⟨go45, 0, none⟩) x7_2.length co10)) (v1 := (.slice (some ⟨go45, 0, none⟩) x7_2.length co10)) (ok := (fun _ => True)) (by (with_reducible repeat (first | apply Kd.R_alloc | apply Kd.R_drewN | apply Kd.R_drew)); first | exact Kd.R_mono HO_0.out (fun _ hk => ⟨trivial, hk⟩) | exact Kd.R_mono HO_0.out (fun _ hk => ⟨trivial, (by first | exact hk | exact fun e_ => hk (e_.trans (own_len _ _ _ _ _)))⟩)) hg (.inl rfl)); have n1_ := Aside0.mk (hp_); have n2_ := Aside0.mk (Kd.P_over' (v := (.slice (some ⟨go45, 0, none⟩) x7_2.length co10)) (by (with_reducible repeat (first | apply Kd.P_alloc | apply Kd.P_drewN | apply Kd.P_drew)); exact HO_9.out) (Kd.R_typed HO_7.out) (by decide) hg); have n3_ := Aside0.mk ((by rw [hw]; exact below_set (below_set (below_set (HB.out) GB45.out) GB45.out) GB45.out : Below w.heap.size w w60)); clear HO_0; clear HO_7; clear HO_9; clear HB; have HO_0 := n0_; have HO_7 := n1_; have HO_9 := n2_; have HB := n3_; clear n0_ n1_ n2_ n3_; clear hg hw hp_))
               have n0_ := Aside0.mk (Kd.R_drew HO_0.out)
               have n1_ := Aside0.mk (Kd.R_drew HO_7.out)
               have n2_ := Aside0.mk (Kd.P_drew HO_9.out)
               have n3_ := Aside0.mk (below_drew1 HB.out)
               clear HO_0
               clear HO_7
               clear HO_9
               clear HB
               have HO_0 := n0_
               have HO_7 := n1_
               have HO_9 := n2_
               have HB := n3_
               clear n0_ n1_ n2_ n3_
               have p195 : 0 ≤ (x14_2 : Int) := of_decide_eq_true (by first | (with_reducible assumption) | assumption)
               have q195 : x14_2 < (t170.length : Int) := of_decide_eq_true (by first | (with_reducible assumption) | assumption)
               obtain ⟨ad195, e195, hx195_0, hx195_1, hx195_2⟩ := at_T35 (Kd.R_reads' HO_0.out).2.2 x14_2 p195 q195
               cases e195
               replace p195 := eq_true p195
               replace q195 := eq_true q195
               have p197 : 0 ≤ (x14_2 : Int) := of_decide_eq_true (by first | (with_reducible assumption) | assumption)
               have q197 : x14_2 < (t170.length : Int) := of_decide_eq_true (by first | (with_reducible assumption) | assumption)
               obtain ⟨ad197, e197, hx197_0, hx197_1, hx197_2⟩ := at_T35 (Kd.R_reads' HO_0.out).2.2 x14_2 p197 q197
               obtain rfl : ad195 = ad197 := (by injection e197)
               replace p197 := eq_true p197
               replace q197 := eq_true q197
               have p199 : 0 ≤ (x14_2 : Int) := of_decide_eq_true (by first | (with_reducible assumption) | assumption)
               have q199 : x14_2 < (t170.length : Int) := of_decide_eq_true (by first | (with_reducible assumption) | assumption)
               obtain ⟨ad199, e199, hx199_0, hx199_1, hx199_2⟩ := at_T35 (Kd.R_reads' HO_0.out).2.2 x14_2 p199 q199
               obtain rfl : ad195 = ad199 := (by injection e199)
               replace p199 := eq_true p199
               replace q199 := eq_true q199
               have p201 : 0 ≤ (x14_2 : Int) := of_decide_eq_true (by first | (with_reducible assumption) | assumption)
               have q201 : x14_2 < (t170.length : Int) := of_decide_eq_true (by first | (with_reducible assumption) | assumption)
               obtain ⟨ad201, e201, hx201_0, hx201_1, hx201_2⟩ := at_T35 (Kd.R_reads' HO_0.out).2.2 x14_2 p201 q201
               obtain rfl : ad195 = ad201 := (by injection e201)
               replace p201 := eq_true p201
               replace q201 := eq_true q201
               have p203 : 0 ≤ (x14_2 : Int) := of_decide_eq_true (by first | (with_reducible assumption) | assumption)
               have q203 : x14_2 < (t170.length : Int) := of_decide_eq_true (by first | (with_reducible assumption) | assumption)
               obtain ⟨ad203, e203, hx203_0, hx203_1, hx203_2⟩ := at_T35 (Kd.R_reads' HO_0.out).2.2 x14_2 p203 q203
               obtain rfl : ad195 = ad203 := (by injection e203)
               replace p203 := eq_true p203
               replace q203 := eq_true q203
               have p205 : 0 ≤ (x14_2 : Int) := of_decide_eq_true (by first | (with_reducible assumption) | assumption)
               have q205 : x14_2 < (t170.length : Int) := of_decide_eq_true (by first | (with_reducible assumption) | assumption)
               obtain ⟨ad205, e205, hx205_0, hx205_1, hx205_2⟩ := at_T35 (Kd.R_reads' HO_0.out).2.2 x14_2 p205 q205
               obtain rfl : ad195 = ad205 := (by injection e205)
               replace p205 := eq_true p205
               replace q205 := eq_true q205
               have p207 : 0 ≤ (x14_2 : Int) := of_decide_eq_true (by first | (with_reducible assumption) | assumption)
               have q207 : x14_2 < (t170.length : Int) := of_decide_eq_true (by first | (with_reducible assumption) | assumption)
               obtain ⟨ad207, e207, hx207_0, hx207_1, hx207_2⟩ := at_T35 (Kd.R_reads' HO_0.out).2.2 x14_2 p207 q207
               obtain rfl : ad195 = ad207 := (by injection e207)
               replace p207 := eq_true p207
               replace q207 := eq_true q207
               have p209 : 0 ≤ (x14_2 : Int) := of_decide_eq_true (by first | (with_reducible assumption) | assumption)
               have q209 : x14_2 < (t170.length : Int) := of_decide_eq_true (by first | (with_reducible assumption) | assumption)
               obtain ⟨ad209, e209, hx209_0, hx209_1, hx209_2⟩ := at_T35 (Kd.R_reads' HO_0.out).2.2 x14_2 p209 q209
               obtain rfl : ad195 = ad209 := (by injection e209)
               replace p209 := eq_true p209
               replace q209 := eq_true q209
               refine start_ (n := 74) (S := fun w' => w'.cell? (ad195.add ((x14_2).toNat * 3)) = some (.int .i64 ((rd_T35 t170 x14_2).f0)) ∧ w'.cell? ⟨(ad195.add ((x14_2).toNat * 3)).block, (ad195.add ((x14_2).toNat * 3)).off + 1, none⟩ = some (.int .i64 ((rd_T35 t170 x14_2).f1)) ∧ w'.cell? ⟨(ad195.add ((x14_2).toNat * 3)).block, (ad195.add ((x14_2).toNat * 3)).off + 2, none⟩ = some (.int .i64 ((rd_T35 t170 x14_2).f2)) ∧ w'.cell? (ad195.add ((x14_2).toNat * 3)) = some (.int .i64 ((rd_T35 t170 x14_2).f0)) ∧ w'.cell? ⟨(ad195.add ((x14_2).toNat * 3)).block, (ad195.add ((x14_2).toNat * 3)).off + 1, none⟩ = some (.int .i64 ((rd_T35 t170 x14_2).f1)) ∧ w'.cell? ⟨(ad195.add ((x14_2).toNat * 3)).block, (ad195.add ((x14_2).toNat * 3)).off + 2, none⟩ = some (.int .i64 ((rd_T35 t170 x14_2).f2)) ∧ w'.cell? (ad195.add ((x14_2).toNat * 3)) = some (.int .i64 ((rd_T35 t170 x14_2).f0)) ∧ w'.cell? ⟨(ad195.add ((x14_2).toNat * 3)).block, (ad195.add ((x14_2).toNat * 3)).off + 1, none⟩ = some (.int .i64 ((rd_T35 t170 x14_2).f1)) ∧ w'.cell? ⟨(ad195.add ((x14_2).toNat * 3)).block, (ad195.add ((x14_2).toNat * 3)).off + 2, none⟩ = some (.int .i64 ((rd_T35 t170 x14_2).f2)) ∧ w'.cell? (ad195.add ((x14_2).toNat * 3)) = some (.int .i64 ((rd_T35 t170 x14_2).f0)) ∧ w'.cell? ⟨(ad195.add ((x14_2).toNat * 3)).block, (ad195.add ((x14_2).toNat * 3)).off + 1, none⟩ = some (.int .i64 ((rd_T35 t170 x14_2).f1)) ∧ w'.cell? ⟨(ad195.add ((x14_2).toNat * 3)).block, (ad195.add ((x14_2).toNat * 3)).off + 2, none⟩ = some (.int .i64 ((rd_T35 t170 x14_2).f2)) ∧ w'.cell? (ad195.add ((x14_2).toNat * 3)) = some (.int .i64 ((rd_T35 t170 x14_2).f0)) ∧ w'.cell? ⟨(ad195.add ((x14_2).toNat * 3)).block, (ad195.add ((x14_2).toNat * 3)).off + 1, none⟩ = some (.int .i64 ((rd_T35 t170 x14_2).f1)) ∧ w'.cell? ⟨(ad195.add ((x14_2).toNat * 3)).block, (ad195.add ((x14_2).toNat * 3)).off + 2, none⟩ = some (.int .i64 ((rd_T35 t170 x14_2).f2)) ∧ w'.cell? (ad195.add ((x14_2).toNat * 3)) = some (.int .i64 ((rd_T35 t170 x14_2).f0)) ∧ w'.cell? ⟨(ad195.add ((x14_2).toNat * 3)).block, (ad195.add ((x14_2).toNat * 3)).off + 1, none⟩ = some (.int .i64 ((rd_T35 t170 x14_2).f1)) ∧ w'.cell? ⟨(ad195.add ((x14_2).toNat * 3)).block, (ad195.add ((x14_2).toNat * 3)).off + 2, none⟩ = some (.int .i64 ((rd_T35 t170 x14_2).f2)) ∧ w'.cell? (ad195.add ((x14_2).toNat * 3)) = some (.int .i64 ((rd_T35 t170 x14_2).f0)) ∧ w'.cell? ⟨(ad195.add ((x14_2).toNat * 3)).block, (ad195.add ((x14_2).toNat * 3)).off + 1, none⟩ = some (.int .i64 ((rd_T35 t170 x14_2).f1)) ∧ w'.cell? ⟨(ad195.add ((x14_2).toNat * 3)).block, (ad195.add ((x14_2).toNat * 3)).off + 2, none⟩ = some (.int .i64 ((rd_T35 t170 x14_2).f2)) ∧ w'.cell? (ad195.add ((x14_2).toNat * 3)) = some (.int .i64 ((rd_T35 t170 x14_2).f0)) ∧ w'.cell? ⟨(ad195.add ((x14_2).toNat * 3)).block, (ad195.add ((x14_2).toNat * 3)).off + 1, none⟩ = some (.int .i64 ((rd_T35 t170 x14_2).f1)) ∧ w'.cell? ⟨(ad195.add ((x14_2).toNat * 3)).block, (ad195.add ((x14_2).toNat * 3)).off + 2, none⟩ = some (.int .i64 ((rd_T35 t170 x14_2).f2))) (ds := []) #[false, false, false, false, false, false, false, false, false, false, false, false, false, false, false, false, false, false, false, false, false, false, false, false, false, false, false, false, false, false, false, false, false, false, false, false, false, false, false, false, false, false, false, false, false, false, false, false, false, false, false, false, false, false, false, false, false, false, false, false, false, false, false, false, false, false, false, false, false, false, false, false, false, false] (by kernel_rfl) rfl rfl ⟨hx195_0, hx195_1, hx195_2, hx197_0, hx197_1, hx197_2, hx199_0, hx199_1, hx199_2, hx201_0, hx201_1, hx201_2, hx203_0, hx203_1, hx203_2, hx205_0, hx205_1, hx205_2, hx207_0, hx207_1, hx207_2, hx209_0, hx209_1, hx209_2⟩ (fun hHeld => ?_); refine with_tabW endonymlaw4_TrieBuilds.tab13 endonymlaw4_TrieBuilds.bits13 (fun HT_ HW_ => ?_)
               generalize w60.drew = w61 at HO_0 HO_7 HO_9 HB hx195_0 hx195_1 hx195_2 hx197_0 hx197_1 hx197_2 hx199_0 hx199_1 hx199_2 hx201_0 hx201_1 hx201_2 hx203_0 hx203_1 hx203_2 hx205_0 hx205_1 hx205_2 hx207_0 hx207_1 hx207_2 hx209_0 hx209_1 hx209_2 hHeld ⊢
               refine pure_ (i := 0) (N := some 95) (v := ?_) (a' := ?_) #[x_, o_, o_, o_, o_, o_, o_, o_, o_, o_, o_, o_, o_, o_, o_, o_, o_, o_, o_, o_, o_, o_, o_, o_, o_, o_, o_, o_, o_, o_, o_, o_, o_, o_, o_, o_, o_, o_, o_, o_, o_, o_, o_, o_, o_, o_, o_, o_, o_, o_, o_, o_, o_, o_, o_, o_, o_, o_, o_, o_, o_, o_, o_, o_, o_, o_, o_, o_, o_, o_, o_, o_, o_, o_] rfl rfl (any_of HT_.out (by kernel_rfl)) (fun _ _ _ h => h) (Or.inl ⟨by rfl, ?_⟩) ?_ ?_; rotate_left; (·(intro w'; go_simp <;> with_reducible rfl)); rotate_left; (·(simp only [Act.put, List.setIfInBounds_toArray, List.set_cons_zero, List.set_cons_succ, i64_w, i32_w] <;> rfl))
               refine pure_ (i := 1) (N := some 96) (v := ?_) (a' := ?_) #[x_, x_, o_, o_, o_, o_, o_, o_, o_, o_, o_, o_, o_, o_, o_, o_, o_, o_, o_, o_, o_, o_, o_, o_, o_, o_, o_, o_, o_, o_, o_, o_, o_, o_, o_, o_, o_, o_, o_, o_, o_, o_, o_, o_, o_, o_, o_, o_, o_, o_, o_, o_, o_, o_, o_, o_, o_, o_, o_, o_, o_, o_, o_, o_, o_, o_, o_, o_, o_, o_, o_, o_, o_, o_] rfl rfl (any_of HT_.out (by kernel_rfl)) (fun _ _ _ h => h) (Or.inl ⟨by rfl, ?_⟩) ?_ ?_; rotate_left; (·(intro w'; go_simp <;> with_reducible rfl)); rotate_left; (·(simp only [Act.put, List.setIfInBounds_toArray, List.set_cons_zero, List.set_cons_succ, i64_w, i32_w] <;> rfl))
               refine pure_ (i := 2) (N := some 97) (v := ?_) (a' := ?_) #[x_, x_, x_, o_, o_, o_, o_, o_, o_, o_, o_, o_, o_, o_, o_, o_, o_, o_, o_, o_, o_, o_, o_, o_, o_, o_, o_, o_, o_, o_, o_, o_, o_, o_, o_, o_, o_, o_, o_, o_, o_, o_, o_, o_, o_, o_, o_, o_, o_, o_, o_, o_, o_, o_, o_, o_, o_, o_, o_, o_, o_, o_, o_, o_, o_, o_, o_, o_, o_, o_, o_, o_, o_, o_] rfl rfl (any_of HT_.out (by kernel_rfl)) (fun _ _ _ h => h) (Or.inl ⟨by rfl, ?_⟩) ?_ ?_; rotate_left; (·(intro w'; go_simp <;> with_reducible rfl)); rotate_left; (·(simp only [Act.put, List.setIfInBounds_toArray, List.set_cons_zero, List.set_cons_succ, i64_w, i32_w] <;> rfl))
               refine pure_ (i := 3) (N := some 98) (v := ?_) (a' := ?_) #[x_, x_, x_, x_, o_, o_, o_, o_, o_, o_, o_, o_, o_, o_, o_, o_, o_, o_, o_, o_, o_, o_, o_, o_, o_, o_, o_, o_, o_, o_, o_, o_, o_, o_, o_, o_, o_, o_, o_, o_, o_, o_, o_, o_, o_, o_, o_, o_, o_, o_, o_, o_, o_, o_, o_, o_, o_, o_, o_, o_, o_, o_, o_, o_, o_, o_, o_, o_, o_, o_, o_, o_, o_, o_] rfl rfl (any_of HT_.out (by kernel_rfl)) (fun _ _ _ h => h) (Or.inl ⟨by rfl, ?_⟩) ?_ ?_; rotate_left; (·(intro w'; go_simp <;> with_reducible rfl)); rotate_left; (·(simp only [Act.put, List.setIfInBounds_toArray, List.set_cons_zero, List.set_cons_succ, i64_w, i32_w] <;> rfl))
               refine pure_ (i := 4) (N := some 99) (v := ?_) (a' := ?_) #[x_, x_, x_, x_, x_, o_, o_, o_, o_, o_, o_, o_, o_, o_, o_, o_, o_, o_, o_, o_, o_, o_, o_, o_, o_, o_, o_, o_, o_, o_, o_, o_, o_, o_, o_, o_, o_, o_, o_, o_, o_, o_, o_, o_, o_, o_, o_, o_, o_, o_, o_, o_, o_, o_, o_, o_, o_, o_, o_, o_, o_, o_, o_, o_, o_, o_, o_, o_, o_, o_, o_, o_, o_, o_] rfl rfl (any_of HT_.out (by kernel_rfl)) (fun _ _ _ h => h) (Or.inl ⟨by rfl, ?_⟩) ?_ ?_; rotate_left; (·(intro w'; go_simp <;> with_reducible rfl)); rotate_left; (·(simp only [Act.put, List.setIfInBounds_toArray, List.set_cons_zero, List.set_cons_succ, i64_w, i32_w] <;> rfl))
               refine pure_ (i := 7) (N := some 102) (v := ?_) (a' := ?_) #[x_, x_, x_, x_, x_, o_, o_, x_, o_, o_, o_, o_, o_, o_, o_, o_, o_, o_, o_, o_, o_, o_, o_, o_, o_, o_, o_, o_, o_, o_, o_, o_, o_, o_, o_, o_, o_, o_, o_, o_, o_, o_, o_, o_, o_, o_, o_, o_, o_, o_, o_, o_, o_, o_, o_, o_, o_, o_, o_, o_, o_, o_, o_, o_, o_, o_, o_, o_, o_, o_, o_, o_, o_, o_] rfl rfl (any_of HT_.out (by kernel_rfl)) (fun _ _ _ h => h) (Or.inl ⟨by rfl, ?_⟩) ?_ ?_; rotate_left; (·(intro w'; go_simp <;> with_reducible rfl)); rotate_left; (·(simp only [Act.put, List.setIfInBounds_toArray, List.set_cons_zero, List.set_cons_succ, i64_w, i32_w] <;> rfl))
               refine pure_ (i := 8) (N := some 103) (v := ?_) (a' := ?_) #[x_, x_, x_, x_, x_, o_, o_, x_, x_, o_, o_, o_, o_, o_, o_, o_, o_, o_, o_, o_, o_, o_, o_, o_, o_, o_, o_, o_, o_, o_, o_, o_, o_, o_, o_, o_, o_, o_, o_, o_, o_, o_, o_, o_, o_, o_, o_, o_, o_, o_, o_, o_, o_, o_, o_, o_, o_, o_, o_, o_, o_, o_, o_, o_, o_, o_, o_, o_, o_, o_, o_, o_, o_, o_] rfl rfl (any_of HT_.out (by kernel_rfl)) (fun _ _ _ h => h) (Or.inl ⟨by rfl, ?_⟩) ?_ ?_; rotate_left; (·(intro w'; go_simp <;> with_reducible rfl)); rotate_left; (·(simp only [Act.put, List.setIfInBounds_toArray, List.set_cons_zero, List.set_cons_succ, i64_w, i32_w] <;> rfl))
               refine pure_ (i := 9) (N := some 104) (v := ?_) (a' := ?_) #[x_, x_, x_, x_, x_, o_, o_, x_, x_, x_, o_, o_, o_, o_, o_, o_, o_, o_, o_, o_, o_, o_, o_, o_, o_, o_, o_, o_, o_, o_, o_, o_, o_, o_, o_, o_, o_, o_, o_, o_, o_, o_, o_, o_, o_, o_, o_, o_, o_, o_, o_, o_, o_, o_, o_, o_, o_, o_, o_, o_, o_, o_, o_, o_, o_, o_, o_, o_, o_, o_, o_, o_, o_, o_] rfl rfl (any_of HT_.out (by kernel_rfl)) (fun _ _ _ h => h) (Or.inl ⟨by rfl, ?_⟩) ?_ ?_; rotate_left; (·(intro w'; go_simp <;> with_reducible rfl)); rotate_left; (·(simp only [Act.put, List.setIfInBounds_toArray, List.set_cons_zero, List.set_cons_succ, i64_w, i32_w] <;> rfl))
               refine pure_ (i := 10) (N := some 105) (v := ?_) (a' := ?_) #[x_, x_, x_, x_, x_, o_, o_, x_, x_, x_, x_, o_, o_, o_, o_, o_, o_, o_, o_, o_, o_, o_, o_, o_, o_, o_, o_, o_, o_, o_, o_, o_, o_, o_, o_, o_, o_, o_, o_, o_, o_, o_, o_, o_, o_, o_, o_, o_, o_, o_, o_, o_, o_, o_, o_, o_, o_, o_, o_, o_, o_, o_, o_, o_, o_, o_, o_, o_, o_, o_, o_, o_, o_, o_] rfl rfl (any_of HT_.out (by kernel_rfl)) (fun _ _ _ h => h) (Or.inl ⟨by rfl, ?_⟩) ?_ ?_; rotate_left; (·(intro w'; go_simp <;> with_reducible rfl)); rotate_left; (·(simp only [Act.put, List.setIfInBounds_toArray, List.set_cons_zero, List.set_cons_succ, i64_w, i32_w] <;> rfl))
               refine pure_ (i := 11) (N := some 106) (v := ?_) (a' := ?_) #[x_, x_, x_, x_, x_, o_, o_, x_, x_, x_, x_, x_, o_, o_, o_, o_, o_, o_, o_, o_, o_, o_, o_, o_, o_, o_, o_, o_, o_, o_, o_, o_, o_, o_, o_, o_, o_, o_, o_, o_, o_, o_, o_, o_, o_, o_, o_, o_, o_, o_, o_, o_, o_, o_, o_, o_, o_, o_, o_, o_, o_, o_, o_, o_, o_, o_, o_, o_, o_, o_, o_, o_, o_, o_] rfl rfl (any_of HT_.out (by kernel_rfl)) (fun _ _ _ h => h) (Or.inl ⟨by rfl, ?_⟩) ?_ ?_; rotate_left; (·(intro w'; go_simp <;> with_reducible rfl)); rotate_left; (·(simp only [Act.put, List.setIfInBounds_toArray, List.set_cons_zero, List.set_cons_succ, i64_w, i32_w] <;> rfl))
               refine pure_ (i := 12) (N := some 107) (v := ?_) (a' := ?_) #[x_, x_, x_, x_, x_, o_, o_, x_, x_, x_, x_, x_, x_, o_, o_, o_, o_, o_, o_, o_, o_, o_, o_, o_, o_, o_, o_, o_, o_, o_, o_, o_, o_, o_, o_, o_, o_, o_, o_, o_, o_, o_, o_, o_, o_, o_, o_, o_, o_, o_, o_, o_, o_, o_, o_, o_, o_, o_, o_, o_, o_, o_, o_, o_, o_, o_, o_, o_, o_, o_, o_, o_, o_, o_] rfl rfl (any_of HT_.out (by kernel_rfl)) (fun _ _ _ h => h) (Or.inl ⟨by rfl, ?_⟩) ?_ ?_; rotate_left; (·(intro w'; go_simp <;> with_reducible rfl)); rotate_left; (·(simp only [Act.put, List.setIfInBounds_toArray, List.set_cons_zero, List.set_cons_succ, i64_w, i32_w] <;> rfl))
               refine take_ (i := 5) (N := some 100) (v := ?_) (a' := ?_) #[true, true, true, true, true, true, false, true, true, true, true, true, true, false, false, false, false, false, false, false, false, false, false, false, false, false, false, false, false, false, false, false, false, false, false, false, false, false, false, false, false, false, false, false, false, false, false, false, false, false, false, false, false, false, false, false, false, false, false, false, false, false, false, false, false, false, false, false, false, false, false, false, false, false] rfl rfl (take_ofW HT_.out HW_.out (by kernel_rfl)) (fun _ _ _ h => h) (Or.inl ⟨by rfl, ?_⟩) hHeld ?_ ?_
               rotate_left
               ·rintro w' ⟨s0, s1, s2, s3, s4, s5, s6, s7, s8, s9, s10, s11, s12, s13, s14, s15, s16, s17, s18, s19, s20, s21, s22, s23⟩
                go_simp
                with_reducible rfl
               rotate_left
               ·simp only [Act.put, List.setIfInBounds_toArray, List.set_cons_zero, List.set_cons_succ, i64_w, i32_w]
                rfl
               refine take_ (i := 13) (N := some 108) (v := ?_) (a' := ?_) #[true, true, true, true, true, true, false, true, true, true, true, true, true, true, false, false, false, false, false, false, false, false, false, false, false, false, false, false, false, false, false, false, false, false, false, false, false, false, false, false, false, false, false, false, false, false, false, false, false, false, false, false, false, false, false, false, false, false, false, false, false, false, false, false, false, false, false, false, false, false, false, false, false, false] rfl rfl (take_ofW HT_.out HW_.out (by kernel_rfl)) (fun _ _ _ h => h) (Or.inl ⟨by rfl, ?_⟩) hHeld ?_ ?_
               rotate_left
               ·rintro w' ⟨s0, s1, s2, s3, s4, s5, s6, s7, s8, s9, s10, s11, s12, s13, s14, s15, s16, s17, s18, s19, s20, s21, s22, s23⟩
                go_simp
                with_reducible rfl
               rotate_left
               ·simp only [Act.put, List.setIfInBounds_toArray, List.set_cons_zero, List.set_cons_succ, i64_w, i32_w]
                rfl
               refine one_ (i := 6) (N := some 101) #[true, true, true, true, true, true, true, true, true, true, true, true, true, true, false, false, false, false, false, false, false, false, false, false, false, false, false, false, false, false, false, false, false, false, false, false, false, false, false, false, false, false, false, false, false, false, false, false, false, false, false, false, false, false, false, false, false, false, false, false, false, false, false, false, false, false, false, false, false, false, false, false, false, false] rfl rfl (one_of HT_.out (by kernel_rfl)) (by decide) (fun K hK => ?_)
               refine goes_ Try.func13 (by kernel_rfl) rfl #[.pointer Ao40, .int .i64 ((rd_T35 t170 x14_2).f0)] (by rfl) rfl rfl (by (try simp only [List.map_toArray, List.map_cons, List.map_nil]); first | done | rfl | (simp only [List.length_drop, List.length_take]; rfl)) ?_
               with_reducible refine (trie_Trie_Get.calls _ t175 ((rd_T35 t170 x14_2).f0) t196 _ ?side1 A47.out).mono ?_
               (case side1 => repeat (first | exact (Kd.P_reads' HO_9.out).2.2 | (with_reducible refine Kd.PC_alloc ?_ _) | (with_reducible refine Kd.PC_drewN ?_ _) | (with_reducible refine Kd.PC_drew ?_)))
               rintro e w' ⟨rfl, ⟨nd, rfl⟩⟩
               refine ⟨_, rfl, ?_⟩
               refine hK.out _ _ ⟨hHeld.1, hHeld.2.1, hHeld.2.2.1, hHeld.2.2.2.1, hHeld.2.2.2.2.1, hHeld.2.2.2.2.2.1, hHeld.2.2.2.2.2.2.1, hHeld.2.2.2.2.2.2.2.1, hHeld.2.2.2.2.2.2.2.2.1, hHeld.2.2.2.2.2.2.2.2.2.1, hHeld.2.2.2.2.2.2.2.2.2.2.1, hHeld.2.2.2.2.2.2.2.2.2.2.2.1, hHeld.2.2.2.2.2.2.2.2.2.2.2.2.1, hHeld.2.2.2.2.2.2.2.2.2.2.2.2.2.1, hHeld.2.2.2.2.2.2.2.2.2.2.2.2.2.2.1, hHeld.2.2.2.2.2.2.2.2.2.2.2.2.2.2.2.1, hHeld.2.2.2.2.2.2.2.2.2.2.2.2.2.2.2.2.1, hHeld.2.2.2.2.2.2.2.2.2.2.2.2.2.2.2.2.2.1, hHeld.2.2.2.2.2.2.2.2.2.2.2.2.2.2.2.2.2.2.1, hHeld.2.2.2.2.2.2.2.2.2.2.2.2.2.2.2.2.2.2.2.1, hHeld.2.2.2.2.2.2.2.2.2.2.2.2.2.2.2.2.2.2.2.2.1, hHeld.2.2.2.2.2.2.2.2.2.2.2.2.2.2.2.2.2.2.2.2.2.1, hHeld.2.2.2.2.2.2.2.2.2.2.2.2.2.2.2.2.2.2.2.2.2.2.1, hHeld.2.2.2.2.2.2.2.2.2.2.2.2.2.2.2.2.2.2.2.2.2.2.2⟩ (fun hHeld => ?_)
               clear hK K
               refine norm_ (a' := ?_) ?_ ?_
               rotate_left
               ·show Act.put _ (some 101) _ = _
                simp only [Act.put, List.setIfInBounds_toArray, List.set_cons_zero, List.set_cons_succ, i64_w, i32_w]
                rfl
               refine one_ (i := 14) (N := some 109) #[true, true, true, true, true, true, true, true, true, true, true, true, true, true, true, false, false, false, false, false, false, false, false, false, false, false, false, false, false, false, false, false, false, false, false, false, false, false, false, false, false, false, false, false, false, false, false, false, false, false, false, false, false, false, false, false, false, false, false, false, false, false, false, false, false, false, false, false, false, false, false, false, false, false] rfl rfl (one_of HT_.out (by kernel_rfl)) (by decide) (fun K hK => ?_)
               refine goes_ Try.func14 (by kernel_rfl) rfl #[.slice (some ad195) t170.length co9, .int .i64 a1, .int .i64 ((rd_T35 t170 x14_2).f0)] (by rfl) rfl rfl (by (try simp only [List.map_toArray, List.map_cons, List.map_nil]); first | done | rfl | (simp only [List.length_drop, List.length_take]; rfl)) ?_
               with_reducible refine (endonymref4_Get.calls k2 _ _ t170 a1 ((rd_T35 t170 x14_2).f0) t198 _ ?side1 ?side2 A48.out).mono ?_
               (case side1 => repeat (first | exact (Kd.R_reads' HO_0.out).2.2 | (with_reducible refine Kd.C_alloc ?_ _) | (with_reducible refine Kd.C_drewN ?_ _) | (with_reducible refine Kd.C_drew ?_)))
               (case side2 => exact (Kd.R_reads' HO_0.out).2.1)
               rintro e w' ⟨rfl, ⟨nd, rfl⟩⟩
               refine ⟨_, rfl, ?_⟩
               refine hK.out _ _ ⟨hHeld.1, hHeld.2.1, hHeld.2.2.1, hHeld.2.2.2.1, hHeld.2.2.2.2.1, hHeld.2.2.2.2.2.1, hHeld.2.2.2.2.2.2.1, hHeld.2.2.2.2.2.2.2.1, hHeld.2.2.2.2.2.2.2.2.1, hHeld.2.2.2.2.2.2.2.2.2.1, hHeld.2.2.2.2.2.2.2.2.2.2.1, hHeld.2.2.2.2.2.2.2.2.2.2.2.1, hHeld.2.2.2.2.2.2.2.2.2.2.2.2.1, hHeld.2.2.2.2.2.2.2.2.2.2.2.2.2.1, hHeld.2.2.2.2.2.2.2.2.2.2.2.2.2.2.1, hHeld.2.2.2.2.2.2.2.2.2.2.2.2.2.2.2.1, hHeld.2.2.2.2.2.2.2.2.2.2.2.2.2.2.2.2.1, hHeld.2.2.2.2.2.2.2.2.2.2.2.2.2.2.2.2.2.1, hHeld.2.2.2.2.2.2.2.2.2.2.2.2.2.2.2.2.2.2.1, hHeld.2.2.2.2.2.2.2.2.2.2.2.2.2.2.2.2.2.2.2.1, hHeld.2.2.2.2.2.2.2.2.2.2.2.2.2.2.2.2.2.2.2.2.1, hHeld.2.2.2.2.2.2.2.2.2.2.2.2.2.2.2.2.2.2.2.2.2.1, hHeld.2.2.2.2.2.2.2.2.2.2.2.2.2.2.2.2.2.2.2.2.2.2.1, hHeld.2.2.2.2.2.2.2.2.2.2.2.2.2.2.2.2.2.2.2.2.2.2.2⟩ (fun hHeld => ?_)
               clear hK K
               refine norm_ (a' := ?_) ?_ ?_
               rotate_left
               ·show Act.put _ (some 109) _ = _
                simp only [Act.put, List.setIfInBounds_toArray, List.set_cons_zero, List.set_cons_succ, i64_w, i32_w]
                rfl
               refine pure_ (i := 15) (N := some 110) (v := ?_) (a' := ?_) #[x_, x_, x_, x_, x_, x_, x_, x_, x_, x_, x_, x_, x_, x_, x_, x_, o_, o_, o_, o_, o_, o_, o_, o_, o_, o_, o_, o_, o_, o_, o_, o_, o_, o_, o_, o_, o_, o_, o_, o_, o_, o_, o_, o_, o_, o_, o_, o_, o_, o_, o_, o_, o_, o_, o_, o_, o_, o_, o_, o_, o_, o_, o_, o_, o_, o_, o_, o_, o_, o_, o_, o_, o_, o_] rfl rfl (any_of HT_.out (by kernel_rfl)) (fun _ _ _ h => h) (Or.inl ⟨by rfl, ?_⟩) ?_ ?_; rotate_left; (·(intro w'; go_simp <;> with_reducible rfl)); rotate_left; (·(simp only [Act.put, List.setIfInBounds_toArray, List.set_cons_zero, List.set_cons_succ, i64_w, i32_w] <;> rfl))
               refine pure_ (i := 16) (N := some 111) (v := ?_) (a' := ?_) #[x_, x_, x_, x_, x_, x_, x_, x_, x_, x_, x_, x_, x_, x_, x_, x_, x_, o_, o_, o_, o_, o_, o_, o_, o_, o_, o_, o_, o_, o_, o_, o_, o_, o_, o_, o_, o_, o_, o_, o_, o_, o_, o_, o_, o_, o_, o_, o_, o_, o_, o_, o_, o_, o_, o_, o_, o_, o_, o_, o_, o_, o_, o_, o_, o_, o_, o_, o_, o_, o_, o_, o_, o_, o_] rfl rfl (any_of HT_.out (by kernel_rfl)) (fun _ _ _ h => h) (Or.inl ⟨by rfl, ?_⟩) ?_ ?_; rotate_left; (·(intro w'; go_simp <;> with_reducible rfl)); rotate_left; (·(simp only [Act.put, List.setIfInBounds_toArray, List.set_cons_zero, List.set_cons_succ, i64_w, i32_w] <;> rfl))
               refine pure_ (i := 17) (N := some 112) (v := ?_) (a' := ?_) #[x_, x_, x_, x_, x_, x_, x_, x_, x_, x_, x_, x_, x_, x_, x_, x_, x_, x_, o_, o_, o_, o_, o_, o_, o_, o_, o_, o_, o_, o_, o_, o_, o_, o_, o_, o_, o_, o_, o_, o_, o_, o_, o_, o_, o_, o_, o_, o_, o_, o_, o_, o_, o_, o_, o_, o_, o_, o_, o_, o_, o_, o_, o_, o_, o_, o_, o_, o_, o_, o_, o_, o_, o_, o_] rfl rfl (any_of HT_.out (by kernel_rfl)) (fun _ _ _ h => h) (Or.inl ⟨by rfl, ?_⟩) ?_ ?_; rotate_left; (·(intro w'; go_simp <;> with_reducible rfl)); rotate_left; (·(simp only [Act.put, List.setIfInBounds_toArray, List.set_cons_zero, List.set_cons_succ, i64_w, i32_w] <;> rfl))
               refine pure_ (i := 18) (N := some 113) (v := ?_) (a' := ?_) #[x_, x_, x_, x_, x_, x_, x_, x_, x_, x_, x_, x_, x_, x_, x_, x_, x_, x_, x_, o_, o_, o_, o_, o_, o_, o_, o_, o_, o_, o_, o_, o_, o_, o_, o_, o_, o_, o_, o_, o_, o_, o_, o_, o_, o_, o_, o_, o_, o_, o_, o_, o_, o_, o_, o_, o_, o_, o_, o_, o_, o_, o_, o_, o_, o_, o_, o_, o_, o_, o_, o_, o_, o_, o_] rfl rfl (any_of HT_.out (by kernel_rfl)) (fun _ _ _ h => h) (Or.inl ⟨by rfl, ?_⟩) ?_ ?_; rotate_left; (·(intro w'; go_simp <;> with_reducible rfl)); rotate_left; (·(simp only [Act.put, List.setIfInBounds_toArray, List.set_cons_zero, List.set_cons_succ, i64_w, i32_w] <;> rfl))
               refine pure_ (i := 19) (N := some 114) (v := ?_) (a' := ?_) #[x_, x_, x_, x_, x_, x_, x_, x_, x_, x_, x_, x_, x_, x_, x_, x_, x_, x_, x_, x_, o_, o_, o_, o_, o_, o_, o_, o_, o_, o_, o_, o_, o_, o_, o_, o_, o_, o_, o_, o_, o_, o_, o_, o_, o_, o_, o_, o_, o_, o_, o_, o_, o_, o_, o_, o_, o_, o_, o_, o_, o_, o_, o_, o_, o_, o_, o_, o_, o_, o_, o_, o_, o_, o_] rfl rfl (any_of HT_.out (by kernel_rfl)) (fun _ _ _ h => h) (Or.inl ⟨by rfl, ?_⟩) ?_ ?_; rotate_left; (·(intro w'; go_simp <;> with_reducible rfl)); rotate_left; (·(simp only [Act.put, List.setIfInBounds_toArray, List.set_cons_zero, List.set_cons_succ, i64_w, i32_w] <;> rfl))
               refine pure_ (i := 20) (N := some 115) (v := ?_) (a' := ?_) #[x_, x_, x_, x_, x_, x_, x_, x_, x_, x_, x_, x_, x_, x_, x_, x_, x_, x_, x_, x_, x_, o_, o_, o_, o_, o_, o_, o_, o_, o_, o_, o_, o_, o_, o_, o_, o_, o_, o_, o_, o_, o_, o_, o_, o_, o_, o_, o_, o_, o_, o_, o_, o_, o_, o_, o_, o_, o_, o_, o_, o_, o_, o_, o_, o_, o_, o_, o_, o_, o_, o_, o_, o_, o_] rfl rfl (any_of HT_.out (by kernel_rfl)) (fun _ _ _ h => h) (Or.inl ⟨by rfl, ?_⟩) ?_ ?_; rotate_left; (·(intro w'; go_simp <;> with_reducible rfl)); rotate_left; (·(simp only [Act.put, List.setIfInBounds_toArray, List.set_cons_zero, List.set_cons_succ, i64_w, i32_w] <;> rfl))
               refine pure_ (i := 21) (N := some 116) (v := ?_) (a' := ?_) #[x_, x_, x_, x_, x_, x_, x_, x_, x_, x_, x_, x_, x_, x_, x_, x_, x_, x_, x_, x_, x_, x_, o_, o_, o_, o_, o_, o_, o_, o_, o_, o_, o_, o_, o_, o_, o_, o_, o_, o_, o_, o_, o_, o_, o_, o_, o_, o_, o_, o_, o_, o_, o_, o_, o_, o_, o_, o_, o_, o_, o_, o_, o_, o_, o_, o_, o_, o_, o_, o_, o_, o_, o_, o_] rfl rfl (any_of HT_.out (by kernel_rfl)) (fun _ _ _ h => h) (Or.inl ⟨by rfl, ?_⟩) ?_ ?_; rotate_left; (·(intro w'; go_simp <;> with_reducible rfl)); rotate_left; (·(simp only [Act.put, List.setIfInBounds_toArray, List.set_cons_zero, List.set_cons_succ, i64_w, i32_w] <;> rfl))
               refine pure_ (i := 24) (N := some 119) (v := ?_) (a' := ?_) #[x_, x_, x_, x_, x_, x_, x_, x_, x_, x_, x_, x_, x_, x_, x_, x_, x_, x_, x_, x_, x_, x_, o_, o_, x_, o_, o_, o_, o_, o_, o_, o_, o_, o_, o_, o_, o_, o_, o_, o_, o_, o_, o_, o_, o_, o_, o_, o_, o_, o_, o_, o_, o_, o_, o_, o_, o_, o_, o_, o_, o_, o_, o_, o_, o_, o_, o_, o_, o_, o_, o_, o_, o_, o_] rfl rfl (any_of HT_.out (by kernel_rfl)) (fun _ _ _ h => h) (Or.inl ⟨by rfl, ?_⟩) ?_ ?_; rotate_left; (·(intro w'; go_simp <;> with_reducible rfl)); rotate_left; (·(simp only [Act.put, List.setIfInBounds_toArray, List.set_cons_zero, List.set_cons_succ, i64_w, i32_w] <;> rfl))
               refine pure_ (i := 25) (N := some 120) (v := ?_) (a' := ?_) #[x_, x_, x_, x_, x_, x_, x_, x_, x_, x_, x_, x_, x_, x_, x_, x_, x_, x_, x_, x_, x_, x_, o_, o_, x_, x_, o_, o_, o_, o_, o_, o_, o_, o_, o_, o_, o_, o_, o_, o_, o_, o_, o_, o_, o_, o_, o_, o_, o_, o_, o_, o_, o_, o_, o_, o_, o_, o_, o_, o_, o_, o_, o_, o_, o_, o_, o_, o_, o_, o_, o_, o_, o_, o_] rfl rfl (any_of HT_.out (by kernel_rfl)) (fun _ _ _ h => h) (Or.inl ⟨by rfl, ?_⟩) ?_ ?_; rotate_left; (·(intro w'; go_simp <;> with_reducible rfl)); rotate_left; (·(simp only [Act.put, List.setIfInBounds_toArray, List.set_cons_zero, List.set_cons_succ, i64_w, i32_w] <;> rfl))
               refine pure_ (i := 26) (N := some 121) (v := ?_) (a' := ?_) #[x_, x_, x_, x_, x_, x_, x_, x_, x_, x_, x_, x_, x_, x_, x_, x_, x_, x_, x_, x_, x_, x_, o_, o_, x_, x_, x_, o_, o_, o_, o_, o_, o_, o_, o_, o_, o_, o_, o_, o_, o_, o_, o_, o_, o_, o_, o_, o_, o_, o_, o_, o_, o_, o_, o_, o_, o_, o_, o_, o_, o_, o_, o_, o_, o_, o_, o_, o_, o_, o_, o_, o_, o_, o_] rfl rfl (any_of HT_.out (by kernel_rfl)) (fun _ _ _ h => h) (Or.inl ⟨by rfl, ?_⟩) ?_ ?_; rotate_left; (·(intro w'; go_simp <;> with_reducible rfl)); rotate_left; (·(simp only [Act.put, List.setIfInBounds_toArray, List.set_cons_zero, List.set_cons_succ, i64_w, i32_w] <;> rfl))
               refine pure_ (i := 27) (N := some 122) (v := ?_) (a' := ?_) #[x_, x_, x_, x_, x_, x_, x_, x_, x_, x_, x_, x_, x_, x_, x_, x_, x_, x_, x_, x_, x_, x_, o_, o_, x_, x_, x_, x_, o_, o_, o_, o_, o_, o_, o_, o_, o_, o_, o_, o_, o_, o_, o_, o_, o_, o_, o_, o_, o_, o_, o_, o_, o_, o_, o_, o_, o_, o_, o_, o_, o_, o_, o_, o_, o_, o_, o_, o_, o_, o_, o_, o_, o_, o_] rfl rfl (any_of HT_.out (by kernel_rfl)) (fun _ _ _ h => h) (Or.inl ⟨by rfl, ?_⟩) ?_ ?_; rotate_left; (·(intro w'; go_simp <;> with_reducible rfl)); rotate_left; (·(simp only [Act.put, List.setIfInBounds_toArray, List.set_cons_zero, List.set_cons_succ, i64_w, i32_w] <;> rfl))
               refine pure_ (i := 28) (N := some 123) (v := ?_) (a' := ?_) #[x_, x_, x_, x_, x_, x_, x_, x_, x_, x_, x_, x_, x_, x_, x_, x_, x_, x_, x_, x_, x_, x_, o_, o_, x_, x_, x_, x_, x_, o_, o_, o_, o_, o_, o_, o_, o_, o_, o_, o_, o_, o_, o_, o_, o_, o_, o_, o_, o_, o_, o_, o_, o_, o_, o_, o_, o_, o_, o_, o_, o_, o_, o_, o_, o_, o_, o_, o_, o_, o_, o_, o_, o_, o_] rfl rfl (any_of HT_.out (by kernel_rfl)) (fun _ _ _ h => h) (Or.inl ⟨by rfl, ?_⟩) ?_ ?_; rotate_left; (·(intro w'; go_simp <;> with_reducible rfl)); rotate_left; (·(simp only [Act.put, List.setIfInBounds_toArray, List.set_cons_zero, List.set_cons_succ, i64_w, i32_w] <;> rfl))
               refine pure_ (i := 29) (N := some 124) (v := ?_) (a' := ?_) #[x_, x_, x_, x_, x_, x_, x_, x_, x_, x_, x_, x_, x_, x_, x_, x_, x_, x_, x_, x_, x_, x_, o_, o_, x_, x_, x_, x_, x_, x_, o_, o_, o_, o_, o_, o_, o_, o_, o_, o_, o_, o_, o_, o_, o_, o_, o_, o_, o_, o_, o_, o_, o_, o_, o_, o_, o_, o_, o_, o_, o_, o_, o_, o_, o_, o_, o_, o_, o_, o_, o_, o_, o_, o_] rfl rfl (any_of HT_.out (by kernel_rfl)) (fun _ _ _ h => h) (Or.inl ⟨by rfl, ?_⟩) ?_ ?_; rotate_left; (·(intro w'; go_simp <;> with_reducible rfl)); rotate_left; (·(simp only [Act.put, List.setIfInBounds_toArray, List.set_cons_zero, List.set_cons_succ, i64_w, i32_w] <;> rfl))
               refine take_ (i := 22) (N := some 117) (v := ?_) (a' := ?_) #[true, true, true, true, true, true, true, true, true, true, true, true, true, true, true, true, true, true, true, true, true, true, true, false, true, true, true, true, true, true, false, false, false, false, false, false, false, false, false, false, false, false, false, false, false, false, false, false, false, false, false, false, false, false, false, false, false, false, false, false, false, false, false, false, false, false, false, false, false, false, false, false, false, false] rfl rfl (take_ofW HT_.out HW_.out (by kernel_rfl)) (fun _ _ _ h => h) (Or.inl ⟨by rfl, ?_⟩) hHeld ?_ ?_
               rotate_left
               ·rintro w' ⟨s0, s1, s2, s3, s4, s5, s6, s7, s8, s9, s10, s11, s12, s13, s14, s15, s16, s17, s18, s19, s20, s21, s22, s23⟩
                go_simp
                with_reducible rfl
               rotate_left
               ·simp only [Act.put, List.setIfInBounds_toArray, List.set_cons_zero, List.set_cons_succ, i64_w, i32_w]
                rfl
               refine take_ (i := 30) (N := some 125) (v := ?_) (a' := ?_) #[true, true, true, true, true, true, true, true, true, true, true, true, true, true, true, true, true, true, true, true, true, true, true, false, true, true, true, true, true, true, true, false, false, false, false, false, false, false, false, false, false, false, false, false, false, false, false, false, false, false, false, false, false, false, false, false, false, false, false, false, false, false, false, false, false, false, false, false, false, false, false, false, false, false] rfl rfl (take_ofW HT_.out HW_.out (by kernel_rfl)) (fun _ _ _ h => h) (Or.inl ⟨by rfl, ?_⟩) hHeld ?_ ?_
               rotate_left
               ·rintro w' ⟨s0, s1, s2, s3, s4, s5, s6, s7, s8, s9, s10, s11, s12, s13, s14, s15, s16, s17, s18, s19, s20, s21, s22, s23⟩
                go_simp
                with_reducible rfl
               rotate_left
               ·simp only [Act.put, List.setIfInBounds_toArray, List.set_cons_zero, List.set_cons_succ, i64_w, i32_w]
                rfl
               refine one_ (i := 23) (N := some 118) #[true, true, true, true, true, true, true, true, true, true, true, true, true, true, true, true, true, true, true, true, true, true, true, true, true, true, true, true, true, true, true, false, false, false, false, false, false, false, false, false, false, false, false, false, false, false, false, false, false, false, false, false, false, false, false, false, false, false, false, false, false, false, false, false, false, false, false, false, false, false, false, false, false, false] rfl rfl (one_of HT_.out (by kernel_rfl)) (by decide) (fun K hK => ?_)
               refine goes_ Try.func13 (by kernel_rfl) rfl #[.pointer Ao40, .int .i64 ((rd_T35 t170 x14_2).f1)] (by rfl) rfl rfl (by (try simp only [List.map_toArray, List.map_cons, List.map_nil]); first | done | rfl | (simp only [List.length_drop, List.length_take]; rfl)) ?_
               with_reducible refine (trie_Trie_Get.calls _ t175 ((rd_T35 t170 x14_2).f1) t200 _ ?side1 A50.out).mono ?_
               (case side1 => repeat (first | exact (Kd.P_reads' HO_9.out).2.2 | (with_reducible refine Kd.PC_alloc ?_ _) | (with_reducible refine Kd.PC_drewN ?_ _) | (with_reducible refine Kd.PC_drew ?_)))
               rintro e w' ⟨rfl, ⟨nd, rfl⟩⟩
               refine ⟨_, rfl, ?_⟩
               refine hK.out _ _ ⟨hHeld.1, hHeld.2.1, hHeld.2.2.1, hHeld.2.2.2.1, hHeld.2.2.2.2.1, hHeld.2.2.2.2.2.1, hHeld.2.2.2.2.2.2.1, hHeld.2.2.2.2.2.2.2.1, hHeld.2.2.2.2.2.2.2.2.1, hHeld.2.2.2.2.2.2.2.2.2.1, hHeld.2.2.2.2.2.2.2.2.2.2.1, hHeld.2.2.2.2.2.2.2.2.2.2.2.1, hHeld.2.2.2.2.2.2.2.2.2.2.2.2.1, hHeld.2.2.2.2.2.2.2.2.2.2.2.2.2.1, hHeld.2.2.2.2.2.2.2.2.2.2.2.2.2.2.1, hHeld.2.2.2.2.2.2.2.2.2.2.2.2.2.2.2.1, hHeld.2.2.2.2.2.2.2.2.2.2.2.2.2.2.2.2.1, hHeld.2.2.2.2.2.2.2.2.2.2.2.2.2.2.2.2.2.1, hHeld.2.2.2.2.2.2.2.2.2.2.2.2.2.2.2.2.2.2.1, hHeld.2.2.2.2.2.2.2.2.2.2.2.2.2.2.2.2.2.2.2.1, hHeld.2.2.2.2.2.2.2.2.2.2.2.2.2.2.2.2.2.2.2.2.1, hHeld.2.2.2.2.2.2.2.2.2.2.2.2.2.2.2.2.2.2.2.2.2.1, hHeld.2.2.2.2.2.2.2.2.2.2.2.2.2.2.2.2.2.2.2.2.2.2.1, hHeld.2.2.2.2.2.2.2.2.2.2.2.2.2.2.2.2.2.2.2.2.2.2.2⟩ (fun hHeld => ?_)
               clear hK K
               refine norm_ (a' := ?_) ?_ ?_
               rotate_left
               ·show Act.put _ (some 118) _ = _
                simp only [Act.put, List.setIfInBounds_toArray, List.set_cons_zero, List.set_cons_succ, i64_w, i32_w]
                rfl
               refine one_ (i := 31) (N := some 126) #[true, true, true, true, true, true, true, true, true, true, true, true, true, true, true, true, true, true, true, true, true, true, true, true, true, true, true, true, true, true, true, true, false, false, false, false, false, false, false, false, false, false, false, false, false, false, false, false, false, false, false, false, false, false, false, false, false, false, false, false, false, false, false, false, false, false, false, false, false, false, false, false, false, false] rfl rfl (one_of HT_.out (by kernel_rfl)) (by decide) (fun K hK => ?_)
               refine goes_ Try.func14 (by kernel_rfl) rfl #[.slice (some ad195) t170.length co9, .int .i64 a1, .int .i64 ((rd_T35 t170 x14_2).f1)] (by rfl) rfl rfl (by (try simp only [List.map_toArray, List.map_cons, List.map_nil]); first | done | rfl | (simp only [List.length_drop, List.length_take]; rfl)) ?_
               with_reducible refine (endonymref4_Get.calls k2 _ _ t170 a1 ((rd_T35 t170 x14_2).f1) t202 _ ?side1 ?side2 A51.out).mono ?_
               (case side1 => repeat (first | exact (Kd.R_reads' HO_0.out).2.2 | (with_reducible refine Kd.C_alloc ?_ _) | (with_reducible refine Kd.C_drewN ?_ _) | (with_reducible refine Kd.C_drew ?_)))
               (case side2 => exact (Kd.R_reads' HO_0.out).2.1)
               rintro e w' ⟨rfl, ⟨nd, rfl⟩⟩
               refine ⟨_, rfl, ?_⟩
               refine hK.out _ _ ⟨hHeld.1, hHeld.2.1, hHeld.2.2.1, hHeld.2.2.2.1, hHeld.2.2.2.2.1, hHeld.2.2.2.2.2.1, hHeld.2.2.2.2.2.2.1, hHeld.2.2.2.2.2.2.2.1, hHeld.2.2.2.2.2.2.2.2.1, hHeld.2.2.2.2.2.2.2.2.2.1, hHeld.2.2.2.2.2.2.2.2.2.2.1, hHeld.2.2.2.2.2.2.2.2.2.2.2.1, hHeld.2.2.2.2.2.2.2.2.2.2.2.2.1, hHeld.2.2.2.2.2.2.2.2.2.2.2.2.2.1, hHeld.2.2.2.2.2.2.2.2.2.2.2.2.2.2.1, hHeld.2.2.2.2.2.2.2.2.2.2.2.2.2.2.2.1, hHeld.2.2.2.2.2.2.2.2.2.2.2.2.2.2.2.2.1, hHeld.2.2.2.2.2.2.2.2.2.2.2.2.2.2.2.2.2.1, hHeld.2.2.2.2.2.2.2.2.2.2.2.2.2.2.2.2.2.2.1, hHeld.2.2.2.2.2.2.2.2.2.2.2.2.2.2.2.2.2.2.2.1, hHeld.2.2.2.2.2.2.2.2.2.2.2.2.2.2.2.2.2.2.2.2.1, hHeld.2.2.2.2.2.2.2.2.2.2.2.2.2.2.2.2.2.2.2.2.2.1, hHeld.2.2.2.2.2.2.2.2.2.2.2.2.2.2.2.2.2.2.2.2.2.2.1, hHeld.2.2.2.2.2.2.2.2.2.2.2.2.2.2.2.2.2.2.2.2.2.2.2⟩ (fun hHeld => ?_)
               clear hK K
               refine norm_ (a' := ?_) ?_ ?_
               rotate_left
               ·show Act.put _ (some 126) _ = _
                simp only [Act.put, List.setIfInBounds_toArray, List.set_cons_zero, List.set_cons_succ, i64_w, i32_w]
                rfl
               refine pure_ (i := 32) (N := some 127) (v := ?_) (a' := ?_) #[x_, x_, x_, x_, x_, x_, x_, x_, x_, x_, x_, x_, x_, x_, x_, x_, x_, x_, x_, x_, x_, x_, x_, x_, x_, x_, x_, x_, x_, x_, x_, x_, x_, o_, o_, o_, o_, o_, o_, o_, o_, o_, o_, o_, o_, o_, o_, o_, o_, o_, o_, o_, o_, o_, o_, o_, o_, o_, o_, o_, o_, o_, o_, o_, o_, o_, o_, o_, o_, o_, o_, o_, o_, o_] rfl rfl (any_of HT_.out (by kernel_rfl)) (fun _ _ _ h => h) (Or.inl ⟨by rfl, ?_⟩) ?_ ?_; rotate_left; (·(intro w'; go_simp <;> with_reducible rfl)); rotate_left; (·(simp only [Act.put, List.setIfInBounds_toArray, List.set_cons_zero, List.set_cons_succ, i64_w, i32_w] <;> rfl))
               refine pure_ (i := 33) (N := some 128) (v := ?_) (a' := ?_) #[x_, x_, x_, x_, x_, x_, x_, x_, x_, x_, x_, x_, x_, x_, x_, x_, x_, x_, x_, x_, x_, x_, x_, x_, x_, x_, x_, x_, x_, x_, x_, x_, x_, x_, o_, o_, o_, o_, o_, o_, o_, o_, o_, o_, o_, o_, o_, o_, o_, o_, o_, o_, o_, o_, o_, o_, o_, o_, o_, o_, o_, o_, o_, o_, o_, o_, o_, o_, o_, o_, o_, o_, o_, o_] rfl rfl (any_of HT_.out (by kernel_rfl)) (fun _ _ _ h => h) (Or.inl ⟨by rfl, ?_⟩) ?_ ?_; rotate_left; (·(intro w'; go_simp <;> with_reducible rfl)); rotate_left; (·(simp only [Act.put, List.setIfInBounds_toArray, List.set_cons_zero, List.set_cons_succ, i64_w, i32_w] <;> rfl))
               refine pure_ (i := 34) (N := some 129) (v := ?_) (a' := ?_) #[x_, x_, x_, x_, x_, x_, x_, x_, x_, x_, x_, x_, x_, x_, x_, x_, x_, x_, x_, x_, x_, x_, x_, x_, x_, x_, x_, x_, x_, x_, x_, x_, x_, x_, x_, o_, o_, o_, o_, o_, o_, o_, o_, o_, o_, o_, o_, o_, o_, o_, o_, o_, o_, o_, o_, o_, o_, o_, o_, o_, o_, o_, o_, o_, o_, o_, o_, o_, o_, o_, o_, o_, o_, o_] rfl rfl (any_of HT_.out (by kernel_rfl)) (fun _ _ _ h => h) (Or.inl ⟨by rfl, ?_⟩) ?_ ?_; rotate_left; (·(intro w'; go_simp <;> with_reducible rfl)); rotate_left; (·(simp only [Act.put, List.setIfInBounds_toArray, List.set_cons_zero, List.set_cons_succ, i64_w, i32_w] <;> rfl))
               refine pure_ (i := 35) (N := some 130) (v := ?_) (a' := ?_) #[x_, x_, x_, x_, x_, x_, x_, x_, x_, x_, x_, x_, x_, x_, x_, x_, x_, x_, x_, x_, x_, x_, x_, x_, x_, x_, x_, x_, x_, x_, x_, x_, x_, x_, x_, x_, o_, o_, o_, o_, o_, o_, o_, o_, o_, o_, o_, o_, o_, o_, o_, o_, o_, o_, o_, o_, o_, o_, o_, o_, o_, o_, o_, o_, o_, o_, o_, o_, o_, o_, o_, o_, o_, o_] rfl rfl (any_of HT_.out (by kernel_rfl)) (fun _ _ _ h => h) (Or.inl ⟨by rfl, ?_⟩) ?_ ?_; rotate_left; (·(intro w'; go_simp <;> with_reducible rfl)); rotate_left; (·(simp only [Act.put, List.setIfInBounds_toArray, List.set_cons_zero, List.set_cons_succ, i64_w, i32_w] <;> rfl))
               refine pure_ (i := 36) (N := some 131) (v := ?_) (a' := ?_) #[x_, x_, x_, x_, x_, x_, x_, x_, x_, x_, x_, x_, x_, x_, x_, x_, x_, x_, x_, x_, x_, x_, x_, x_, x_, x_, x_, x_, x_, x_, x_, x_, x_, x_, x_, x_, x_, o_, o_, o_, o_, o_, o_, o_, o_, o_, o_, o_, o_, o_, o_, o_, o_, o_, o_, o_, o_, o_, o_, o_, o_, o_, o_, o_, o_, o_, o_, o_, o_, o_, o_, o_, o_, o_] rfl rfl (any_of HT_.out (by kernel_rfl)) (fun _ _ _ h => h) (Or.inl ⟨by rfl, ?_⟩) ?_ ?_; rotate_left; (·(intro w'; go_simp <;> with_reducible rfl)); rotate_left; (·(simp only [Act.put, List.setIfInBounds_toArray, List.set_cons_zero, List.set_cons_succ, i64_w, i32_w] <;> rfl))
               refine pure_ (i := 37) (N := some 132) (v := ?_) (a' := ?_) #[x_, x_, x_, x_, x_, x_, x_, x_, x_, x_, x_, x_, x_, x_, x_, x_, x_, x_, x_, x_, x_, x_, x_, x_, x_, x_, x_, x_, x_, x_, x_, x_, x_, x_, x_, x_, x_, x_, o_, o_, o_, o_, o_, o_, o_, o_, o_, o_, o_, o_, o_, o_, o_, o_, o_, o_, o_, o_, o_, o_, o_, o_, o_, o_, o_, o_, o_, o_, o_, o_, o_, o_, o_, o_] rfl rfl (any_of HT_.out (by kernel_rfl)) (fun _ _ _ h => h) (Or.inl ⟨by rfl, ?_⟩) ?_ ?_; rotate_left; (·(intro w'; go_simp <;> with_reducible rfl)); rotate_left; (·(simp only [Act.put, List.setIfInBounds_toArray, List.set_cons_zero, List.set_cons_succ, i64_w, i32_w] <;> rfl))
               refine pure_ (i := 38) (N := some 133) (v := ?_) (a' := ?_) #[x_, x_, x_, x_, x_, x_, x_, x_, x_, x_, x_, x_, x_, x_, x_, x_, x_, x_, x_, x_, x_, x_, x_, x_, x_, x_, x_, x_, x_, x_, x_, x_, x_, x_, x_, x_, x_, x_, x_, o_, o_, o_, o_, o_, o_, o_, o_, o_, o_, o_, o_, o_, o_, o_, o_, o_, o_, o_, o_, o_, o_, o_, o_, o_, o_, o_, o_, o_, o_, o_, o_, o_, o_, o_] rfl rfl (any_of HT_.out (by kernel_rfl)) (fun _ _ _ h => h) (Or.inl ⟨by rfl, ?_⟩) ?_ ?_; rotate_left; (·(intro w'; go_simp <;> with_reducible rfl)); rotate_left; (·(simp only [Act.put, List.setIfInBounds_toArray, List.set_cons_zero, List.set_cons_succ, i64_w, i32_w] <;> rfl))
               refine pure_ (i := 39) (N := some 134) (v := ?_) (a' := ?_) #[x_, x_, x_, x_, x_, x_, x_, x_, x_, x_, x_, x_, x_, x_, x_, x_, x_, x_, x_, x_, x_, x_, x_, x_, x_, x_, x_, x_, x_, x_, x_, x_, x_, x_, x_, x_, x_, x_, x_, x_, o_, o_, o_, o_, o_, o_, o_, o_, o_, o_, o_, o_, o_, o_, o_, o_, o_, o_, o_, o_, o_, o_, o_, o_, o_, o_, o_, o_, o_, o_, o_, o_, o_, o_] rfl rfl (any_of HT_.out (by kernel_rfl)) (fun _ _ _ h => h) (Or.inl ⟨by rfl, ?_⟩) ?_ ?_; rotate_left; (·(intro w'; go_simp <;> with_reducible rfl)); rotate_left; (·(simp only [Act.put, List.setIfInBounds_toArray, List.set_cons_zero, List.set_cons_succ, i64_w, i32_w] <;> rfl))
               refine pure_ (i := 43) (N := some 138) (v := ?_) (a' := ?_) #[x_, x_, x_, x_, x_, x_, x_, x_, x_, x_, x_, x_, x_, x_, x_, x_, x_, x_, x_, x_, x_, x_, x_, x_, x_, x_, x_, x_, x_, x_, x_, x_, x_, x_, x_, x_, x_, x_, x_, x_, o_, o_, o_, x_, o_, o_, o_, o_, o_, o_, o_, o_, o_, o_, o_, o_, o_, o_, o_, o_, o_, o_, o_, o_, o_, o_, o_, o_, o_, o_, o_, o_, o_, o_] rfl rfl (any_of HT_.out (by kernel_rfl)) (fun _ _ _ h => h) (Or.inl ⟨by rfl, ?_⟩) ?_ ?_; rotate_left; (·(intro w'; go_simp <;> with_reducible rfl)); rotate_left; (·(simp only [Act.put, List.setIfInBounds_toArray, List.set_cons_zero, List.set_cons_succ, i64_w, i32_w] <;> rfl))
               refine pure_ (i := 44) (N := some 139) (v := ?_) (a' := ?_) #[x_, x_, x_, x_, x_, x_, x_, x_, x_, x_, x_, x_, x_, x_, x_, x_, x_, x_, x_, x_, x_, x_, x_, x_, x_, x_, x_, x_, x_, x_, x_, x_, x_, x_, x_, x_, x_, x_, x_, x_, o_, o_, o_, x_, x_, o_, o_, o_, o_, o_, o_, o_, o_, o_, o_, o_, o_, o_, o_, o_, o_, o_, o_, o_, o_, o_, o_, o_, o_, o_, o_, o_, o_, o_] rfl rfl (any_of HT_.out (by kernel_rfl)) (fun _ _ _ h => h) (Or.inl ⟨by rfl, ?_⟩) ?_ ?_; rotate_left; (·(intro w'; go_simp <;> with_reducible rfl)); rotate_left; (·(simp only [Act.put, List.setIfInBounds_toArray, List.set_cons_zero, List.set_cons_succ, i64_w, i32_w] <;> rfl))
               refine pure_ (i := 45) (N := some 140) (v := ?_) (a' := ?_) #[x_, x_, x_, x_, x_, x_, x_, x_, x_, x_, x_, x_, x_, x_, x_, x_, x_, x_, x_, x_, x_, x_, x_, x_, x_, x_, x_, x_, x_, x_, x_, x_, x_, x_, x_, x_, x_, x_, x_, x_, o_, o_, o_, x_, x_, x_, o_, o_, o_, o_, o_, o_, o_, o_, o_, o_, o_, o_, o_, o_, o_, o_, o_, o_, o_, o_, o_, o_, o_, o_, o_, o_, o_, o_] rfl rfl (any_of HT_.out (by kernel_rfl)) (fun _ _ _ h => h) (Or.inl ⟨by rfl, ?_⟩) ?_ ?_; rotate_left; (·(intro w'; go_simp <;> with_reducible rfl)); rotate_left; (·(simp only [Act.put, List.setIfInBounds_toArray, List.set_cons_zero, List.set_cons_succ, i64_w, i32_w] <;> rfl))
               refine pure_ (i := 46) (N := some 141) (v := ?_) (a' := ?_) #[x_, x_, x_, x_, x_, x_, x_, x_, x_, x_, x_, x_, x_, x_, x_, x_, x_, x_, x_, x_, x_, x_, x_, x_, x_, x_, x_, x_, x_, x_, x_, x_, x_, x_, x_, x_, x_, x_, x_, x_, o_, o_, o_, x_, x_, x_, x_, o_, o_, o_, o_, o_, o_, o_, o_, o_, o_, o_, o_, o_, o_, o_, o_, o_, o_, o_, o_, o_, o_, o_, o_, o_, o_, o_] rfl rfl (any_of HT_.out (by kernel_rfl)) (fun _ _ _ h => h) (Or.inl ⟨by rfl, ?_⟩) ?_ ?_; rotate_left; (·(intro w'; go_simp <;> with_reducible rfl)); rotate_left; (·(simp only [Act.put, List.setIfInBounds_toArray, List.set_cons_zero, List.set_cons_succ, i64_w, i32_w] <;> rfl))
               refine pure_ (i := 47) (N := some 142) (v := ?_) (a' := ?_) #[x_, x_, x_, x_, x_, x_, x_, x_, x_, x_, x_, x_, x_, x_, x_, x_, x_, x_, x_, x_, x_, x_, x_, x_, x_, x_, x_, x_, x_, x_, x_, x_, x_, x_, x_, x_, x_, x_, x_, x_, o_, o_, o_, x_, x_, x_, x_, x_, o_, o_, o_, o_, o_, o_, o_, o_, o_, o_, o_, o_, o_, o_, o_, o_, o_, o_, o_, o_, o_, o_, o_, o_, o_, o_] rfl rfl (any_of HT_.out (by kernel_rfl)) (fun _ _ _ h => h) (Or.inl ⟨by rfl, ?_⟩) ?_ ?_; rotate_left; (·(intro w'; go_simp <;> with_reducible rfl)); rotate_left; (·(simp only [Act.put, List.setIfInBounds_toArray, List.set_cons_zero, List.set_cons_succ, i64_w, i32_w] <;> rfl))
               refine pure_ (i := 48) (N := some 143) (v := ?_) (a' := ?_) #[x_, x_, x_, x_, x_, x_, x_, x_, x_, x_, x_, x_, x_, x_, x_, x_, x_, x_, x_, x_, x_, x_, x_, x_, x_, x_, x_, x_, x_, x_, x_, x_, x_, x_, x_, x_, x_, x_, x_, x_, o_, o_, o_, x_, x_, x_, x_, x_, x_, o_, o_, o_, o_, o_, o_, o_, o_, o_, o_, o_, o_, o_, o_, o_, o_, o_, o_, o_, o_, o_, o_, o_, o_, o_] rfl rfl (any_of HT_.out (by kernel_rfl)) (fun _ _ _ h => h) (Or.inl ⟨by rfl, ?_⟩) ?_ ?_; rotate_left; (·(intro w'; go_simp <;> with_reducible rfl)); rotate_left; (·(simp only [Act.put, List.setIfInBounds_toArray, List.set_cons_zero, List.set_cons_succ, i64_w, i32_w] <;> rfl))
               refine take_ (i := 40) (N := some 135) (v := ?_) (a' := ?_) #[true, true, true, true, true, true, true, true, true, true, true, true, true, true, true, true, true, true, true, true, true, true, true, true, true, true, true, true, true, true, true, true, true, true, true, true, true, true, true, true, true, false, false, true, true, true, true, true, true, false, false, false, false, false, false, false, false, false, false, false, false, false, false, false, false, false, false, false, false, false, false, false, false, false] rfl rfl (take_ofW HT_.out HW_.out (by kernel_rfl)) (fun _ _ _ h => h) (Or.inl ⟨by rfl, ?_⟩) hHeld ?_ ?_
               rotate_left
               ·rintro w' ⟨s0, s1, s2, s3, s4, s5, s6, s7, s8, s9, s10, s11, s12, s13, s14, s15, s16, s17, s18, s19, s20, s21, s22, s23⟩
                go_simp
                with_reducible rfl
               rotate_left
               ·simp only [Act.put, List.setIfInBounds_toArray, List.set_cons_zero, List.set_cons_succ, i64_w, i32_w]
                rfl
               refine pure_ (i := 41) (N := some 136) (v := ?_) (a' := ?_) #[x_, x_, x_, x_, x_, x_, x_, x_, x_, x_, x_, x_, x_, x_, x_, x_, x_, x_, x_, x_, x_, x_, x_, x_, x_, x_, x_, x_, x_, x_, x_, x_, x_, x_, x_, x_, x_, x_, x_, x_, x_, x_, o_, x_, x_, x_, x_, x_, x_, o_, o_, o_, o_, o_, o_, o_, o_, o_, o_, o_, o_, o_, o_, o_, o_, o_, o_, o_, o_, o_, o_, o_, o_, o_] rfl rfl (any_of HT_.out (by kernel_rfl)) (fun _ _ _ h => h) (Or.inl ⟨by rfl, ?_⟩) ?_ ?_; rotate_left; (·(intro w'; go_simp <;> with_reducible rfl)); rotate_left; (·(simp only [Act.put, List.setIfInBounds_toArray, List.set_cons_zero, List.set_cons_succ, i64_w, i32_w] <;> rfl))
               refine take_ (i := 49) (N := some 144) (v := ?_) (a' := ?_) #[true, true, true, true, true, true, true, true, true, true, true, true, true, true, true, true, true, true, true, true, true, true, true, true, true, true, true, true, true, true, true, true, true, true, true, true, true, true, true, true, true, true, false, true, true, true, true, true, true, true, false, false, false, false, false, false, false, false, false, false, false, false, false, false, false, false, false, false, false, false, false, false, false, false] rfl rfl (take_ofW HT_.out HW_.out (by kernel_rfl)) (fun _ _ _ h => h) (Or.inl ⟨by rfl, ?_⟩) hHeld ?_ ?_
               rotate_left
               ·rintro w' ⟨s0, s1, s2, s3, s4, s5, s6, s7, s8, s9, s10, s11, s12, s13, s14, s15, s16, s17, s18, s19, s20, s21, s22, s23⟩
                go_simp
                with_reducible rfl
               rotate_left
               ·simp only [Act.put, List.setIfInBounds_toArray, List.set_cons_zero, List.set_cons_succ, i64_w, i32_w]
                rfl
               refine pure_ (i := 50) (N := some 145) (v := ?_) (a' := ?_) #[x_, x_, x_, x_, x_, x_, x_, x_, x_, x_, x_, x_, x_, x_, x_, x_, x_, x_, x_, x_, x_, x_, x_, x_, x_, x_, x_, x_, x_, x_, x_, x_, x_, x_, x_, x_, x_, x_, x_, x_, x_, x_, o_, x_, x_, x_, x_, x_, x_, x_, x_, o_, o_, o_, o_, o_, o_, o_, o_, o_, o_, o_, o_, o_, o_, o_, o_, o_, o_, o_, o_, o_, o_, o_] rfl rfl (any_of HT_.out (by kernel_rfl)) (fun _ _ _ h => h) (Or.inl ⟨by rfl, ?_⟩) ?_ ?_; rotate_left; (·(intro w'; go_simp <;> with_reducible rfl)); rotate_left; (·(simp only [Act.put, List.setIfInBounds_toArray, List.set_cons_zero, List.set_cons_succ, i64_w, i32_w] <;> rfl))
               refine one_ (i := 42) (N := some 137) #[true, true, true, true, true, true, true, true, true, true, true, true, true, true, true, true, true, true, true, true, true, true, true, true, true, true, true, true, true, true, true, true, true, true, true, true, true, true, true, true, true, true, true, true, true, true, true, true, true, true, true, false, false, false, false, false, false, false, false, false, false, false, false, false, false, false, false, false, false, false, false, false, false, false] rfl rfl (one_of HT_.out (by kernel_rfl)) (by decide) (fun K hK => ?_)
               refine goes_ Try.func13 (by kernel_rfl) rfl #[.pointer Ao40, .int .i64 (wrap64 (((rd_T35 t170 x14_2).f0) - 1))] (by rfl) rfl rfl (by (try simp only [List.map_toArray, List.map_cons, List.map_nil]); first | done | rfl | (simp only [List.length_drop, List.length_take]; rfl)) ?_
               with_reducible refine (trie_Trie_Get.calls _ t175 (wrap64 (((rd_T35 t170 x14_2).f0) - 1)) t204 _ ?side1 A53.out).mono ?_
               (case side1 => repeat (first | exact (Kd.P_reads' HO_9.out).2.2 | (with_reducible refine Kd.PC_alloc ?_ _) | (with_reducible refine Kd.PC_drewN ?_ _) | (with_reducible refine Kd.PC_drew ?_)))
               rintro e w' ⟨rfl, ⟨nd, rfl⟩⟩
               refine ⟨_, rfl, ?_⟩
               refine hK.out _ _ ⟨hHeld.1, hHeld.2.1, hHeld.2.2.1, hHeld.2.2.2.1, hHeld.2.2.2.2.1, hHeld.2.2.2.2.2.1, hHeld.2.2.2.2.2.2.1, hHeld.2.2.2.2.2.2.2.1, hHeld.2.2.2.2.2.2.2.2.1, hHeld.2.2.2.2.2.2.2.2.2.1, hHeld.2.2.2.2.2.2.2.2.2.2.1, hHeld.2.2.2.2.2.2.2.2.2.2.2.1, hHeld.2.2.2.2.2.2.2.2.2.2.2.2.1, hHeld.2.2.2.2.2.2.2.2.2.2.2.2.2.1, hHeld.2.2.2.2.2.2.2.2.2.2.2.2.2.2.1, hHeld.2.2.2.2.2.2.2.2.2.2.2.2.2.2.2.1, hHeld.2.2.2.2.2.2.2.2.2.2.2.2.2.2.2.2.1, hHeld.2.2.2.2.2.2.2.2.2.2.2.2.2.2.2.2.2.1, hHeld.2.2.2.2.2.2.2.2.2.2.2.2.2.2.2.2.2.2.1, hHeld.2.2.2.2.2.2.2.2.2.2.2.2.2.2.2.2.2.2.2.1, hHeld.2.2.2.2.2.2.2.2.2.2.2.2.2.2.2.2.2.2.2.2.1, hHeld.2.2.2.2.2.2.2.2.2.2.2.2.2.2.2.2.2.2.2.2.2.1, hHeld.2.2.2.2.2.2.2.2.2.2.2.2.2.2.2.2.2.2.2.2.2.2.1, hHeld.2.2.2.2.2.2.2.2.2.2.2.2.2.2.2.2.2.2.2.2.2.2.2⟩ (fun hHeld => ?_)
               clear hK K
               refine norm_ (a' := ?_) ?_ ?_
               rotate_left
               ·show Act.put _ (some 137) _ = _
                simp only [Act.put, List.setIfInBounds_toArray, List.set_cons_zero, List.set_cons_succ, i64_w, i32_w]
                rfl
               refine one_ (i := 51) (N := some 146) #[true, true, true, true, true, true, true, true, true, true, true, true, true, true, true, true, true, true, true, true, true, true, true, true, true, true, true, true, true, true, true, true, true, true, true, true, true, true, true, true, true, true, true, true, true, true, true, true, true, true, true, true, false, false, false, false, false, false, false, false, false, false, false, false, false, false, false, false, false, false, false, false, false, false] rfl rfl (one_of HT_.out (by kernel_rfl)) (by decide) (fun K hK => ?_)
               refine goes_ Try.func14 (by kernel_rfl) rfl #[.slice (some ad195) t170.length co9, .int .i64 a1, .int .i64 (wrap64 (((rd_T35 t170 x14_2).f0) - 1))] (by rfl) rfl rfl (by (try simp only [List.map_toArray, List.map_cons, List.map_nil]); first | done | rfl | (simp only [List.length_drop, List.length_take]; rfl)) ?_
               with_reducible refine (endonymref4_Get.calls k2 _ _ t170 a1 (wrap64 (((rd_T35 t170 x14_2).f0) - 1)) t206 _ ?side1 ?side2 A54.out).mono ?_
               (case side1 => repeat (first | exact (Kd.R_reads' HO_0.out).2.2 | (with_reducible refine Kd.C_alloc ?_ _) | (with_reducible refine Kd.C_drewN ?_ _) | (with_reducible refine Kd.C_drew ?_)))
               (case side2 => exact (Kd.R_reads' HO_0.out).2.1)
               rintro e w' ⟨rfl, ⟨nd, rfl⟩⟩
               refine ⟨_, rfl, ?_⟩
               refine hK.out _ _ ⟨hHeld.1, hHeld.2.1, hHeld.2.2.1, hHeld.2.2.2.1, hHeld.2.2.2.2.1, hHeld.2.2.2.2.2.1, hHeld.2.2.2.2.2.2.1, hHeld.2.2.2.2.2.2.2.1, hHeld.2.2.2.2.2.2.2.2.1, hHeld.2.2.2.2.2.2.2.2.2.1, hHeld.2.2.2.2.2.2.2.2.2.2.1, hHeld.2.2.2.2.2.2.2.2.2.2.2.1, hHeld.2.2.2.2.2.2.2.2.2.2.2.2.1, hHeld.2.2.2.2.2.2.2.2.2.2.2.2.2.1, hHeld.2.2.2.2.2.2.2.2.2.2.2.2.2.2.1, hHeld.2.2.2.2.2.2.2.2.2.2.2.2.2.2.2.1, hHeld.2.2.2.2.2.2.2.2.2.2.2.2.2.2.2.2.1, hHeld.2.2.2.2.2.2.2.2.2.2.2.2.2.2.2.2.2.1, hHeld.2.2.2.2.2.2.2.2.2.2.2.2.2.2.2.2.2.2.1, hHeld.2.2.2.2.2.2.2.2.2.2.2.2.2.2.2.2.2.2.2.1, hHeld.2.2.2.2.2.2.2.2.2.2.2.2.2.2.2.2.2.2.2.2.1, hHeld.2.2.2.2.2.2.2.2.2.2.2.2.2.2.2.2.2.2.2.2.2.1, hHeld.2.2.2.2.2.2.2.2.2.2.2.2.2.2.2.2.2.2.2.2.2.2.1, hHeld.2.2.2.2.2.2.2.2.2.2.2.2.2.2.2.2.2.2.2.2.2.2.2⟩ (fun hHeld => ?_)
               clear hK K
               refine norm_ (a' := ?_) ?_ ?_
               rotate_left
               ·show Act.put _ (some 146) _ = _
                simp only [Act.put, List.setIfInBounds_toArray, List.set_cons_zero, List.set_cons_succ, i64_w, i32_w]
                rfl
               refine pure_ (i := 52) (N := some 147) (v := ?_) (a' := ?_) #[x_, x_, x_, x_, x_, x_, x_, x_, x_, x_, x_, x_, x_, x_, x_, x_, x_, x_, x_, x_, x_, x_, x_, x_, x_, x_, x_, x_, x_, x_, x_, x_, x_, x_, x_, x_, x_, x_, x_, x_, x_, x_, x_, x_, x_, x_, x_, x_, x_, x_, x_, x_, x_, o_, o_, o_, o_, o_, o_, o_, o_, o_, o_, o_, o_, o_, o_, o_, o_, o_, o_, o_, o_, o_] rfl rfl (any_of HT_.out (by kernel_rfl)) (fun _ _ _ h => h) (Or.inl ⟨by rfl, ?_⟩) ?_ ?_; rotate_left; (·(intro w'; go_simp <;> with_reducible rfl)); rotate_left; (·(simp only [Act.put, List.setIfInBounds_toArray, List.set_cons_zero, List.set_cons_succ, i64_w, i32_w] <;> rfl))
               refine pure_ (i := 53) (N := some 148) (v := ?_) (a' := ?_) #[x_, x_, x_, x_, x_, x_, x_, x_, x_, x_, x_, x_, x_, x_, x_, x_, x_, x_, x_, x_, x_, x_, x_, x_, x_, x_, x_, x_, x_, x_, x_, x_, x_, x_, x_, x_, x_, x_, x_, x_, x_, x_, x_, x_, x_, x_, x_, x_, x_, x_, x_, x_, x_, x_, o_, o_, o_, o_, o_, o_, o_, o_, o_, o_, o_, o_, o_, o_, o_, o_, o_, o_, o_, o_] rfl rfl (any_of HT_.out (by kernel_rfl)) (fun _ _ _ h => h) (Or.inl ⟨by rfl, ?_⟩) ?_ ?_; rotate_left; (·(intro w'; go_simp <;> with_reducible rfl)); rotate_left; (·(simp only [Act.put, List.setIfInBounds_toArray, List.set_cons_zero, List.set_cons_succ, i64_w, i32_w] <;> rfl))
               refine pure_ (i := 54) (N := some 149) (v := ?_) (a' := ?_) #[x_, x_, x_, x_, x_, x_, x_, x_, x_, x_, x_, x_, x_, x_, x_, x_, x_, x_, x_, x_, x_, x_, x_, x_, x_, x_, x_, x_, x_, x_, x_, x_, x_, x_, x_, x_, x_, x_, x_, x_, x_, x_, x_, x_, x_, x_, x_, x_, x_, x_, x_, x_, x_, x_, x_, o_, o_, o_, o_, o_, o_, o_, o_, o_, o_, o_, o_, o_, o_, o_, o_, o_, o_, o_] rfl rfl (any_of HT_.out (by kernel_rfl)) (fun _ _ _ h => h) (Or.inl ⟨by rfl, ?_⟩) ?_ ?_; rotate_left; (·(intro w'; go_simp <;> with_reducible rfl)); rotate_left; (·(simp only [Act.put, List.setIfInBounds_toArray, List.set_cons_zero, List.set_cons_succ, i64_w, i32_w] <;> rfl))
               refine pure_ (i := 55) (N := some 150) (v := ?_) (a' := ?_) #[x_, x_, x_, x_, x_, x_, x_, x_, x_, x_, x_, x_, x_, x_, x_, x_, x_, x_, x_, x_, x_, x_, x_, x_, x_, x_, x_, x_, x_, x_, x_, x_, x_, x_, x_, x_, x_, x_, x_, x_, x_, x_, x_, x_, x_, x_, x_, x_, x_, x_, x_, x_, x_, x_, x_, x_, o_, o_, o_, o_, o_, o_, o_, o_, o_, o_, o_, o_, o_, o_, o_, o_, o_, o_] rfl rfl (any_of HT_.out (by kernel_rfl)) (fun _ _ _ h => h) (Or.inl ⟨by rfl, ?_⟩) ?_ ?_; rotate_left; (·(intro w'; go_simp <;> with_reducible rfl)); rotate_left; (·(simp only [Act.put, List.setIfInBounds_toArray, List.set_cons_zero, List.set_cons_succ, i64_w, i32_w] <;> rfl))
               refine pure_ (i := 56) (N := some 151) (v := ?_) (a' := ?_) #[x_, x_, x_, x_, x_, x_, x_, x_, x_, x_, x_, x_, x_, x_, x_, x_, x_, x_, x_, x_, x_, x_, x_, x_, x_, x_, x_, x_, x_, x_, x_, x_, x_, x_, x_, x_, x_, x_, x_, x_, x_, x_, x_, x_, x_, x_, x_, x_, x_, x_, x_, x_, x_, x_, x_, x_, x_, o_, o_, o_, o_, o_, o_, o_, o_, o_, o_, o_, o_, o_, o_, o_, o_, o_] rfl rfl (any_of HT_.out (by kernel_rfl)) (fun _ _ _ h => h) (Or.inl ⟨by rfl, ?_⟩) ?_ ?_; rotate_left; (·(intro w'; go_simp <;> with_reducible rfl)); rotate_left; (·(simp only [Act.put, List.setIfInBounds_toArray, List.set_cons_zero, List.set_cons_succ, i64_w, i32_w] <;> rfl))
               refine pure_ (i := 57) (N := some 152) (v := ?_) (a' := ?_) #[x_, x_, x_, x_, x_, x_, x_, x_, x_, x_, x_, x_, x_, x_, x_, x_, x_, x_, x_, x_, x_, x_, x_, x_, x_, x_, x_, x_, x_, x_, x_, x_, x_, x_, x_, x_, x_, x_, x_, x_, x_, x_, x_, x_, x_, x_, x_, x_, x_, x_, x_, x_, x_, x_, x_, x_, x_, x_, o_, o_, o_, o_, o_, o_, o_, o_, o_, o_, o_, o_, o_, o_, o_, o_] rfl rfl (any_of HT_.out (by kernel_rfl)) (fun _ _ _ h => h) (Or.inl ⟨by rfl, ?_⟩) ?_ ?_; rotate_left; (·(intro w'; go_simp <;> with_reducible rfl)); rotate_left; (·(simp only [Act.put, List.setIfInBounds_toArray, List.set_cons_zero, List.set_cons_succ, i64_w, i32_w] <;> rfl))
               refine pure_ (i := 58) (N := some 153) (v := ?_) (a' := ?_) #[x_, x_, x_, x_, x_, x_, x_, x_, x_, x_, x_, x_, x_, x_, x_, x_, x_, x_, x_, x_, x_, x_, x_, x_, x_, x_, x_, x_, x_, x_, x_, x_, x_, x_, x_, x_, x_, x_, x_, x_, x_, x_, x_, x_, x_, x_, x_, x_, x_, x_, x_, x_, x_, x_, x_, x_, x_, x_, x_, o_, o_, o_, o_, o_, o_, o_, o_, o_, o_, o_, o_, o_, o_, o_] rfl rfl (any_of HT_.out (by kernel_rfl)) (fun _ _ _ h => h) (Or.inl ⟨by rfl, ?_⟩) ?_ ?_; rotate_left; (·(intro w'; go_simp <;> with_reducible rfl)); rotate_left; (·(simp only [Act.put, List.setIfInBounds_toArray, List.set_cons_zero, List.set_cons_succ, i64_w, i32_w] <;> rfl))
               refine pure_ (i := 59) (N := some 154) (v := ?_) (a' := ?_) #[x_, x_, x_, x_, x_, x_, x_, x_, x_, x_, x_, x_, x_, x_, x_, x_, x_, x_, x_, x_, x_, x_, x_, x_, x_, x_, x_, x_, x_, x_, x_, x_, x_, x_, x_, x_, x_, x_, x_, x_, x_, x_, x_, x_, x_, x_, x_, x_, x_, x_, x_, x_, x_, x_, x_, x_, x_, x_, x_, x_, o_, o_, o_, o_, o_, o_, o_, o_, o_, o_, o_, o_, o_, o_] rfl rfl (any_of HT_.out (by kernel_rfl)) (fun _ _ _ h => h) (Or.inl ⟨by rfl, ?_⟩) ?_ ?_; rotate_left; (·(intro w'; go_simp <;> with_reducible rfl)); rotate_left; (·(simp only [Act.put, List.setIfInBounds_toArray, List.set_cons_zero, List.set_cons_succ, i64_w, i32_w] <;> rfl))
               refine pure_ (i := 63) (N := some 158) (v := ?_) (a' := ?_) #[x_, x_, x_, x_, x_, x_, x_, x_, x_, x_, x_, x_, x_, x_, x_, x_, x_, x_, x_, x_, x_, x_, x_, x_, x_, x_, x_, x_, x_, x_, x_, x_, x_, x_, x_, x_, x_, x_, x_, x_, x_, x_, x_, x_, x_, x_, x_, x_, x_, x_, x_, x_, x_, x_, x_, x_, x_, x_, x_, x_, o_, o_, o_, x_, o_, o_, o_, o_, o_, o_, o_, o_, o_, o_] rfl rfl (any_of HT_.out (by kernel_rfl)) (fun _ _ _ h => h) (Or.inl ⟨by rfl, ?_⟩) ?_ ?_; rotate_left; (·(intro w'; go_simp <;> with_reducible rfl)); rotate_left; (·(simp only [Act.put, List.setIfInBounds_toArray, List.set_cons_zero, List.set_cons_succ, i64_w, i32_w] <;> rfl))
               refine pure_ (i := 64) (N := some 159) (v := ?_) (a' := ?_) #[x_, x_, x_, x_, x_, x_, x_, x_, x_, x_, x_, x_, x_, x_, x_, x_, x_, x_, x_, x_, x_, x_, x_, x_, x_, x_, x_, x_, x_, x_, x_, x_, x_, x_, x_, x_, x_, x_, x_, x_, x_, x_, x_, x_, x_, x_, x_, x_, x_, x_, x_, x_, x_, x_, x_, x_, x_, x_, x_, x_, o_, o_, o_, x_, x_, o_, o_, o_, o_, o_, o_, o_, o_, o_] rfl rfl (any_of HT_.out (by kernel_rfl)) (fun _ _ _ h => h) (Or.inl ⟨by rfl, ?_⟩) ?_ ?_; rotate_left; (·(intro w'; go_simp <;> with_reducible rfl)); rotate_left; (·(simp only [Act.put, List.setIfInBounds_toArray, List.set_cons_zero, List.set_cons_succ, i64_w, i32_w] <;> rfl))
               refine pure_ (i := 65) (N := some 160) (v := ?_) (a' := ?_) #[x_, x_, x_, x_, x_, x_, x_, x_, x_, x_, x_, x_, x_, x_, x_, x_, x_, x_, x_, x_, x_, x_, x_, x_, x_, x_, x_, x_, x_, x_, x_, x_, x_, x_, x_, x_, x_, x_, x_, x_, x_, x_, x_, x_, x_, x_, x_, x_, x_, x_, x_, x_, x_, x_, x_, x_, x_, x_, x_, x_, o_, o_, o_, x_, x_, x_, o_, o_, o_, o_, o_, o_, o_, o_] rfl rfl (any_of HT_.out (by kernel_rfl)) (fun _ _ _ h => h) (Or.inl ⟨by rfl, ?_⟩) ?_ ?_; rotate_left; (·(intro w'; go_simp <;> with_reducible rfl)); rotate_left; (·(simp only [Act.put, List.setIfInBounds_toArray, List.set_cons_zero, List.set_cons_succ, i64_w, i32_w] <;> rfl))
               refine pure_ (i := 66) (N := some 161) (v := ?_) (a' := ?_) #[x_, x_, x_, x_, x_, x_, x_, x_, x_, x_, x_, x_, x_, x_, x_, x_, x_, x_, x_, x_, x_, x_, x_, x_, x_, x_, x_, x_, x_, x_, x_, x_, x_, x_, x_, x_, x_, x_, x_, x_, x_, x_, x_, x_, x_, x_, x_, x_, x_, x_, x_, x_, x_, x_, x_, x_, x_, x_, x_, x_, o_, o_, o_, x_, x_, x_, x_, o_, o_, o_, o_, o_, o_, o_] rfl rfl (any_of HT_.out (by kernel_rfl)) (fun _ _ _ h => h) (Or.inl ⟨by rfl, ?_⟩) ?_ ?_; rotate_left; (·(intro w'; go_simp <;> with_reducible rfl)); rotate_left; (·(simp only [Act.put, List.setIfInBounds_toArray, List.set_cons_zero, List.set_cons_succ, i64_w, i32_w] <;> rfl))
               refine pure_ (i := 67) (N := some 162) (v := ?_) (a' := ?_) #[x_, x_, x_, x_, x_, x_, x_, x_, x_, x_, x_, x_, x_, x_, x_, x_, x_, x_, x_, x_, x_, x_, x_, x_, x_, x_, x_, x_, x_, x_, x_, x_, x_, x_, x_, x_, x_, x_, x_, x_, x_, x_, x_, x_, x_, x_, x_, x_, x_, x_, x_, x_, x_, x_, x_, x_, x_, x_, x_, x_, o_, o_, o_, x_, x_, x_, x_, x_, o_, o_, o_, o_, o_, o_] rfl rfl (any_of HT_.out (by kernel_rfl)) (fun _ _ _ h => h) (Or.inl ⟨by rfl, ?_⟩) ?_ ?_; rotate_left; (·(intro w'; go_simp <;> with_reducible rfl)); rotate_left; (·(simp only [Act.put, List.setIfInBounds_toArray, List.set_cons_zero, List.set_cons_succ, i64_w, i32_w] <;> rfl))
               refine pure_ (i := 68) (N := some 163) (v := ?_) (a' := ?_) #[x_, x_, x_, x_, x_, x_, x_, x_, x_, x_, x_, x_, x_, x_, x_, x_, x_, x_, x_, x_, x_, x_, x_, x_, x_, x_, x_, x_, x_, x_, x_, x_, x_, x_, x_, x_, x_, x_, x_, x_, x_, x_, x_, x_, x_, x_, x_, x_, x_, x_, x_, x_, x_, x_, x_, x_, x_, x_, x_, x_, o_, o_, o_, x_, x_, x_, x_, x_, x_, o_, o_, o_, o_, o_] rfl rfl (any_of HT_.out (by kernel_rfl)) (fun _ _ _ h => h) (Or.inl ⟨by rfl, ?_⟩) ?_ ?_; rotate_left; (·(intro w'; go_simp <;> with_reducible rfl)); rotate_left; (·(simp only [Act.put, List.setIfInBounds_toArray, List.set_cons_zero, List.set_cons_succ, i64_w, i32_w] <;> rfl))
               refine take_ (i := 60) (N := some 155) (v := ?_) (a' := ?_) #[true, true, true, true, true, true, true, true, true, true, true, true, true, true, true, true, true, true, true, true, true, true, true, true, true, true, true, true, true, true, true, true, true, true, true, true, true, true, true, true, true, true, true, true, true, true, true, true, true, true, true, true, true, true, true, true, true, true, true, true, true, false, false, true, true, true, true, true, true, false, false, false, false, false] rfl rfl (take_ofW HT_.out HW_.out (by kernel_rfl)) (fun _ _ _ h => h) (Or.inl ⟨by rfl, ?_⟩) hHeld ?_ ?_
               rotate_left
               ·rintro w' ⟨s0, s1, s2, s3, s4, s5, s6, s7, s8, s9, s10, s11, s12, s13, s14, s15, s16, s17, s18, s19, s20, s21, s22, s23⟩
                go_simp
                with_reducible rfl
               rotate_left
               ·simp only [Act.put, List.setIfInBounds_toArray, List.set_cons_zero, List.set_cons_succ, i64_w, i32_w]
                rfl
               refine pure_ (i := 61) (N := some 156) (v := ?_) (a' := ?_) #[x_, x_, x_, x_, x_, x_, x_, x_, x_, x_, x_, x_, x_, x_, x_, x_, x_, x_, x_, x_, x_, x_, x_, x_, x_, x_, x_, x_, x_, x_, x_, x_, x_, x_, x_, x_, x_, x_, x_, x_, x_, x_, x_, x_, x_, x_, x_, x_, x_, x_, x_, x_, x_, x_, x_, x_, x_, x_, x_, x_, x_, x_, o_, x_, x_, x_, x_, x_, x_, o_, o_, o_, o_, o_] rfl rfl (any_of HT_.out (by kernel_rfl)) (fun _ _ _ h => h) (Or.inl ⟨by rfl, ?_⟩) ?_ ?_; rotate_left; (·(intro w'; go_simp <;> with_reducible rfl)); rotate_left; (·(simp only [Act.put, List.setIfInBounds_toArray, List.set_cons_zero, List.set_cons_succ, i64_w, i32_w] <;> rfl))
               refine take_ (i := 69) (N := some 164) (v := ?_) (a' := ?_) #[true, true, true, true, true, true, true, true, true, true, true, true, true, true, true, true, true, true, true, true, true, true, true, true, true, true, true, true, true, true, true, true, true, true, true, true, true, true, true, true, true, true, true, true, true, true, true, true, true, true, true, true, true, true, true, true, true, true, true, true, true, true, false, true, true, true, true, true, true, true, false, false, false, false] rfl rfl (take_ofW HT_.out HW_.out (by kernel_rfl)) (fun _ _ _ h => h) (Or.inl ⟨by rfl, ?_⟩) hHeld ?_ ?_
               rotate_left
               ·rintro w' ⟨s0, s1, s2, s3, s4, s5, s6, s7, s8, s9, s10, s11, s12, s13, s14, s15, s16, s17, s18, s19, s20, s21, s22, s23⟩
                go_simp
                with_reducible rfl
               rotate_left
               ·simp only [Act.put, List.setIfInBounds_toArray, List.set_cons_zero, List.set_cons_succ, i64_w, i32_w]
                rfl
               refine pure_ (i := 70) (N := some 165) (v := ?_) (a' := ?_) #[x_, x_, x_, x_, x_, x_, x_, x_, x_, x_, x_, x_, x_, x_, x_, x_, x_, x_, x_, x_, x_, x_, x_, x_, x_, x_, x_, x_, x_, x_, x_, x_, x_, x_, x_, x_, x_, x_, x_, x_, x_, x_, x_, x_, x_, x_, x_, x_, x_, x_, x_, x_, x_, x_, x_, x_, x_, x_, x_, x_, x_, x_, o_, x_, x_, x_, x_, x_, x_, x_, x_, o_, o_, o_] rfl rfl (any_of HT_.out (by kernel_rfl)) (fun _ _ _ h => h) (Or.inl ⟨by rfl, ?_⟩) ?_ ?_; rotate_left; (·(intro w'; go_simp <;> with_reducible rfl)); rotate_left; (·(simp only [Act.put, List.setIfInBounds_toArray, List.set_cons_zero, List.set_cons_succ, i64_w, i32_w] <;> rfl))
               refine one_ (i := 62) (N := some 157) #[true, true, true, true, true, true, true, true, true, true, true, true, true, true, true, true, true, true, true, true, true, true, true, true, true, true, true, true, true, true, true, true, true, true, true, true, true, true, true, true, true, true, true, true, true, true, true, true, true, true, true, true, true, true, true, true, true, true, true, true, true, true, true, true, true, true, true, true, true, true, true, false, false, false] rfl rfl (one_of HT_.out (by kernel_rfl)) (by decide) (fun K hK => ?_)
               refine goes_ Try.func13 (by kernel_rfl) rfl #[.pointer Ao40, .int .i64 (wrap64 (((rd_T35 t170 x14_2).f1) + 1))] (by rfl) rfl rfl (by (try simp only [List.map_toArray, List.map_cons, List.map_nil]); first | done | rfl | (simp only [List.length_drop, List.length_take]; rfl)) ?_
               with_reducible refine (trie_Trie_Get.calls _ t175 (wrap64 (((rd_T35 t170 x14_2).f1) + 1)) t208 _ ?side1 A56.out).mono ?_
               (case side1 => repeat (first | exact (Kd.P_reads' HO_9.out).2.2 | (with_reducible refine Kd.PC_alloc ?_ _) | (with_reducible refine Kd.PC_drewN ?_ _) | (with_reducible refine Kd.PC_drew ?_)))
               rintro e w' ⟨rfl, ⟨nd, rfl⟩⟩
               refine ⟨_, rfl, ?_⟩
               refine hK.out _ _ ⟨hHeld.1, hHeld.2.1, hHeld.2.2.1, hHeld.2.2.2.1, hHeld.2.2.2.2.1, hHeld.2.2.2.2.2.1, hHeld.2.2.2.2.2.2.1, hHeld.2.2.2.2.2.2.2.1, hHeld.2.2.2.2.2.2.2.2.1, hHeld.2.2.2.2.2.2.2.2.2.1, hHeld.2.2.2.2.2.2.2.2.2.2.1, hHeld.2.2.2.2.2.2.2.2.2.2.2.1, hHeld.2.2.2.2.2.2.2.2.2.2.2.2.1, hHeld.2.2.2.2.2.2.2.2.2.2.2.2.2.1, hHeld.2.2.2.2.2.2.2.2.2.2.2.2.2.2.1, hHeld.2.2.2.2.2.2.2.2.2.2.2.2.2.2.2.1, hHeld.2.2.2.2.2.2.2.2.2.2.2.2.2.2.2.2.1, hHeld.2.2.2.2.2.2.2.2.2.2.2.2.2.2.2.2.2.1, hHeld.2.2.2.2.2.2.2.2.2.2.2.2.2.2.2.2.2.2.1, hHeld.2.2.2.2.2.2.2.2.2.2.2.2.2.2.2.2.2.2.2.1, hHeld.2.2.2.2.2.2.2.2.2.2.2.2.2.2.2.2.2.2.2.2.1, hHeld.2.2.2.2.2.2.2.2.2.2.2.2.2.2.2.2.2.2.2.2.2.1, hHeld.2.2.2.2.2.2.2.2.2.2.2.2.2.2.2.2.2.2.2.2.2.2.1, hHeld.2.2.2.2.2.2.2.2.2.2.2.2.2.2.2.2.2.2.2.2.2.2.2⟩ (fun hHeld => ?_)
               clear hK K
               refine norm_ (a' := ?_) ?_ ?_
               rotate_left
               ·show Act.put _ (some 157) _ = _
                simp only [Act.put, List.setIfInBounds_toArray, List.set_cons_zero, List.set_cons_succ, i64_w, i32_w]
                rfl
               refine one_ (i := 71) (N := some 166) #[true, true, true, true, true, true, true, true, true, true, true, true, true, true, true, true, true, true, true, true, true, true, true, true, true, true, true, true, true, true, true, true, true, true, true, true, true, true, true, true, true, true, true, true, true, true, true, true, true, true, true, true, true, true, true, true, true, true, true, true, true, true, true, true, true, true, true, true, true, true, true, true, false, false] rfl rfl (one_of HT_.out (by kernel_rfl)) (by decide) (fun K hK => ?_)
               refine goes_ Try.func14 (by kernel_rfl) rfl #[.slice (some ad195) t170.length co9, .int .i64 a1, .int .i64 (wrap64 (((rd_T35 t170 x14_2).f1) + 1))] (by rfl) rfl rfl (by (try simp only [List.map_toArray, List.map_cons, List.map_nil]); first | done | rfl | (simp only [List.length_drop, List.length_take]; rfl)) ?_
               with_reducible refine (endonymref4_Get.calls k2 _ _ t170 a1 (wrap64 (((rd_T35 t170 x14_2).f1) + 1)) t210 _ ?side1 ?side2 A57.out).mono ?_
               (case side1 => repeat (first | exact (Kd.R_reads' HO_0.out).2.2 | (with_reducible refine Kd.C_alloc ?_ _) | (with_reducible refine Kd.C_drewN ?_ _) | (with_reducible refine Kd.C_drew ?_)))
               (case side2 => exact (Kd.R_reads' HO_0.out).2.1)
               rintro e w' ⟨rfl, ⟨nd, rfl⟩⟩
               refine ⟨_, rfl, ?_⟩
               refine hK.out _ _ ⟨hHeld.1, hHeld.2.1, hHeld.2.2.1, hHeld.2.2.2.1, hHeld.2.2.2.2.1, hHeld.2.2.2.2.2.1, hHeld.2.2.2.2.2.2.1, hHeld.2.2.2.2.2.2.2.1, hHeld.2.2.2.2.2.2.2.2.1, hHeld.2.2.2.2.2.2.2.2.2.1, hHeld.2.2.2.2.2.2.2.2.2.2.1, hHeld.2.2.2.2.2.2.2.2.2.2.2.1, hHeld.2.2.2.2.2.2.2.2.2.2.2.2.1, hHeld.2.2.2.2.2.2.2.2.2.2.2.2.2.1, hHeld.2.2.2.2.2.2.2.2.2.2.2.2.2.2.1, hHeld.2.2.2.2.2.2.2.2.2.2.2.2.2.2.2.1, hHeld.2.2.2.2.2.2.2.2.2.2.2.2.2.2.2.2.1, hHeld.2.2.2.2.2.2.2.2.2.2.2.2.2.2.2.2.2.1, hHeld.2.2.2.2.2.2.2.2.2.2.2.2.2.2.2.2.2.2.1, hHeld.2.2.2.2.2.2.2.2.2.2.2.2.2.2.2.2.2.2.2.1, hHeld.2.2.2.2.2.2.2.2.2.2.2.2.2.2.2.2.2.2.2.2.1, hHeld.2.2.2.2.2.2.2.2.2.2.2.2.2.2.2.2.2.2.2.2.2.1, hHeld.2.2.2.2.2.2.2.2.2.2.2.2.2.2.2.2.2.2.2.2.2.2.1, hHeld.2.2.2.2.2.2.2.2.2.2.2.2.2.2.2.2.2.2.2.2.2.2.2⟩ (fun hHeld => ?_)
               clear hK K
               refine norm_ (a' := ?_) ?_ ?_
               rotate_left
               ·show Act.put _ (some 166) _ = _
                simp only [Act.put, List.setIfInBounds_toArray, List.set_cons_zero, List.set_cons_succ, i64_w, i32_w]
                rfl
               refine pure_ (i := 72) (N := some 167) (v := ?_) (a' := ?_) #[x_, x_, x_, x_, x_, x_, x_, x_, x_, x_, x_, x_, x_, x_, x_, x_, x_, x_, x_, x_, x_, x_, x_, x_, x_, x_, x_, x_, x_, x_, x_, x_, x_, x_, x_, x_, x_, x_, x_, x_, x_, x_, x_, x_, x_, x_, x_, x_, x_, x_, x_, x_, x_, x_, x_, x_, x_, x_, x_, x_, x_, x_, x_, x_, x_, x_, x_, x_, x_, x_, x_, x_, x_, o_] rfl rfl (any_of HT_.out (by kernel_rfl)) (fun _ _ _ h => h) (Or.inl ⟨by rfl, ?_⟩) ?_ ?_; rotate_left; (·(intro w'; go_simp <;> with_reducible rfl)); rotate_left; (·(simp only [Act.put, List.setIfInBounds_toArray, List.set_cons_zero, List.set_cons_succ, i64_w, i32_w] <;> rfl))
               refine pure_ (i := 73) (N := some 168) (v := ?_) (a' := ?_) #[x_, x_, x_, x_, x_, x_, x_, x_, x_, x_, x_, x_, x_, x_, x_, x_, x_, x_, x_, x_, x_, x_, x_, x_, x_, x_, x_, x_, x_, x_, x_, x_, x_, x_, x_, x_, x_, x_, x_, x_, x_, x_, x_, x_, x_, x_, x_, x_, x_, x_, x_, x_, x_, x_, x_, x_, x_, x_, x_, x_, x_, x_, x_, x_, x_, x_, x_, x_, x_, x_, x_, x_, x_, x_] rfl rfl (any_of HT_.out (by kernel_rfl)) (fun _ _ _ h => h) (Or.inl ⟨by rfl, ?_⟩) ?_ ?_; rotate_left; (·(intro w'; go_simp <;> with_reducible rfl)); rotate_left; (·(simp only [Act.put, List.setIfInBounds_toArray, List.set_cons_zero, List.set_cons_succ, i64_w, i32_w] <;> rfl))
               refine done_ (done_of HT_.out (by kernel_rfl)) ?_
               try go_wp2
               (try simp only [← hl7_2])
               go_roundg k2
               case measure => have := HJ6.out; have := HK2.out; omega
               case rel => exact ⟨(y194), (wrap64 (x14_2 + 1)), (by first | rfl | (simp; done) | (simp [*]; done)), H', ⟨by have := HJ6.out; have := HK2.out; omega⟩, ⟨by (try simp only [hl7_2]); (with_reducible repeat (first | apply Kd.R_alloc | apply Kd.R_drewN | apply Kd.R_drew)); first | exact Kd.R_mono HO_0.out (fun _ hk => hk.2) | exact Kd.R_mono HO_0.out (fun _ hk => (by first | exact hk.2 | exact fun e_ => hk.2 (e_.trans (own_len _ _ _ _ _))))⟩, ⟨by (try simp only [hl7_2]); (with_reducible repeat (first | apply Kd.R_alloc | apply Kd.R_drewN | apply Kd.R_drew)); first | exact HO_7.out | exact Kd.R_mono HO_7.out (fun _ hk => (by first | exact hk | exact fun e_ => hk (e_.trans (own_len _ _ _ _ _))))⟩, ⟨by (try simp only [hl7_2]); (with_reducible repeat (first | apply Kd.P_alloc | apply Kd.P_drewN | apply Kd.P_drew)); exact HO_9.out⟩, ⟨by repeat (first | (with_reducible first | exact HB.out | apply below_alloc | apply pw_below_drewN | apply below_drew1) | exact HB.out)⟩⟩
              ·rw [if_neg c58] at H
               have c58b0 : (t208 == t210) = false := beq_eq_false_iff_ne.mpr c58
               have c58b1 : (t208 != t210) = true := bne_iff_ne.mpr c58
               exact absurd H (by simp)
             ·rw [if_neg c55] at H
              have c55b0 : (t204 == t206) = false := beq_eq_false_iff_ne.mpr c55
              have c55b1 : (t204 != t206) = true := bne_iff_ne.mpr c55
              exact absurd H (by simp)
            ·rw [if_neg c52] at H
             have c52b0 : (t200 == t202) = false := beq_eq_false_iff_ne.mpr c52
             have c52b1 : (t200 != t202) = true := bne_iff_ne.mpr c52
             exact absurd H (by simp)
           ·rw [if_neg c49] at H
            have c49b0 : (t196 == t198) = false := beq_eq_false_iff_ne.mpr c49
            have c49b1 : (t196 != t198) = true := bne_iff_ne.mpr c49
            exact absurd H (by simp)
          ·rw [if_neg c46] at H
           exact absurd H (by simp)
         ·rw [if_neg c44] at H
          exact absurd H (by simp)
        ·rw [if_neg c43] at H
         exact absurd H (by simp)
       ·rw [if_neg c42] at H
        have c42b0 : decide (x14_2 < (t170.length : Int)) = false := decide_eq_false c42
        have c42b0_h := c42b0
        (try simp only [hl7_2] at c42b0_h)
        clear c42
        have H' := Aside0.mk H
        clear H
        go_wp2
        go_loopg [15] k2 (fun kq v15 w' => ∃ (x15_3 : Int), v15 = .int .i64 x15_3 ∧ Aside0 (endonymlaw4_TrieBuilds.l1 kq t170 a1 l2 t175 x15_3 = some true) ∧ Aside0 (kq ≤ k2) ∧ Aside0 (Kd.R k35 35 w' w.heap.size (fun _ => True) (.slice Ao9 t170.length co9) t170) ∧ Aside0 (Kd.P k57 57 w' w.heap.size (fun _ => True) (.pointer Ao40) t175) ∧ Aside0 (Below w.heap.size w w'))
        case atStart => exact ⟨(0), (by first | rfl | (simp; done) | (simp [*]; done)), H', ⟨Nat.le_refl _⟩, ⟨by (try simp only [hl7_2]); (with_reducible repeat (first | apply Kd.R_alloc | apply Kd.R_drewN | apply Kd.R_drew)); exact Kd.R_mono HO_0.out (fun _ hk => trivial)⟩, ⟨by (try simp only [hl7_2]); (with_reducible repeat (first | apply Kd.P_alloc | apply Kd.P_drewN | apply Kd.P_drew)); exact HO_9.out⟩, ⟨by repeat (first | (with_reducible first | exact HB.out | apply below_alloc | apply pw_below_drewN | apply below_drew1) | exact HB.out)⟩⟩
        case round =>
         clear H'
         (try clear c1); (try clear p2); (try clear c4); (try clear c5); (try clear p6); (try clear c13); (try clear c14); (try clear c42); (try clear c42b0); (try clear c43); (try clear c44); (try clear c46); (try clear c49); (try clear c49b0); (try clear c49b1); (try clear c52); (try clear c52b0); (try clear c52b1); (try clear c55); (try clear c55b0); (try clear c55b1); (try clear c58); (try clear c58b0); (try clear c58b1)
         obtain ⟨x15_3, rfl, HA, HK3, HO_0, HO_9, HB⟩ := hrel
         cases gk with
         | zero => exact absurd HA.out (by simp [endonymlaw4_TrieBuilds.l1])
         | succ k3 =>
          have H := HA.out
          clear HA
          simp only [endonymlaw4_TrieBuilds.l1] at H
          have HC62 := Aside0.mk H
          clear H
          go_upto_region 16 with (fail)
          go_cut [176] (fun v176 wc => ∃ (kq : Nat) (x176_61 : Bool), v176 = .bool x176_61 ∧ Aside0 (endonymlaw4_TrieBuilds.j3 kq t170 a1 l2 t175 x15_3 x176_61 = some true) ∧ Aside0 (kq ≤ k3) ∧ Aside0 (Kd.R k35 35 wc w.heap.size (fun _ => True) (.slice Ao9 t170.length co9) t170) ∧ Aside0 (Kd.P k57 57 wc w.heap.size (fun _ => True) (.pointer Ao40) t175) ∧ Aside0 (Below w.heap.size w wc))
          case first =>
           have H := HC62.out
           clear HC62
           by_cases c63 : x15_3 < (l2.length : Int)
           ·rw [if_pos c63] at H
            have c63b0 : decide (x15_3 < (l2.length : Int)) = true := decide_eq_true c63
            have c63b0_h := c63b0
            (try simp only [hl7_2] at c63b0_h)
            clear c63
            (first | rw [c63b0] | (simp only [i64_w, i32_w]; rw [c63b0]) | skip)
            have H' := Aside0.mk H
            clear H
            go_wp2
            go_meet
            case rel => exact ⟨_, (decide (x15_3 < 100)), (by first | rfl | (simp; done) | (simp [*]; done)), H', ⟨by have := HJ6.out; have := HK2.out; have := HK3.out; first | omega | exact Nat.le_refl _⟩, ⟨by (try simp only [hl7_2]); (with_reducible repeat (first | apply Kd.R_alloc | apply Kd.R_drewN | apply Kd.R_drew)); exact HO_0.out⟩, ⟨by (try simp only [hl7_2]); (with_reducible repeat (first | apply Kd.P_alloc | apply Kd.P_drewN | apply Kd.P_drew)); exact HO_9.out⟩, ⟨by repeat (first | (with_reducible first | exact HB.out | apply below_alloc | apply pw_below_drewN | apply below_drew1) | exact HB.out)⟩⟩
           ·rw [if_neg c63] at H
            have c63b0 : decide (x15_3 < (l2.length : Int)) = false := decide_eq_false c63
            have c63b0_h := c63b0
            (try simp only [hl7_2] at c63b0_h)
            clear c63
            (first | rw [c63b0] | (simp only [i64_w, i32_w]; rw [c63b0]) | skip)
            have H' := Aside0.mk H
            clear H
            go_wp2
            go_meet
            case rel => exact ⟨_, (false), (by first | rfl | (simp; done) | (simp [*]; done)), H', ⟨by have := HJ6.out; have := HK2.out; have := HK3.out; first | omega | exact Nat.le_refl _⟩, ⟨by (try simp only [hl7_2]); (with_reducible repeat (first | apply Kd.R_alloc | apply Kd.R_drewN | apply Kd.R_drew)); exact HO_0.out⟩, ⟨by (try simp only [hl7_2]); (with_reducible repeat (first | apply Kd.P_alloc | apply Kd.P_drewN | apply Kd.P_drew)); exact HO_9.out⟩, ⟨by repeat (first | (with_reducible first | exact HB.out | apply below_alloc | apply pw_below_drewN | apply below_drew1) | exact HB.out)⟩⟩
          case rest =>
           clear HC62
           (try clear c1); (try clear p2); (try clear c4); (try clear c5); (try clear c6); (try clear p6); (try clear c13); (try clear c14); (try clear c42); (try clear c42b0); (try clear c43); (try clear c44); (try clear c46); (try clear c49); (try clear c49b0); (try clear c49b1); (try clear c52); (try clear c52b0); (try clear c52b1); (try clear c55); (try clear c55b0); (try clear c55b1); (try clear c58); (try clear c58b0); (try clear c58b1); (try clear c63); (try clear c63b0); (try clear p2); (try clear p6)
           obtain ⟨kq, x176_61, rfl, HA, HJ61, HO_0, HO_9, HB⟩ := hcut
           cases kq with
           | zero => exact absurd HA.out (by simp [endonymlaw4_TrieBuilds.j3])
           | succ kj61 =>
            have H := HA.out
            clear HA
            simp only [endonymlaw4_TrieBuilds.j3] at H
            by_cases c64 : x176_61 = true
            ·subst c64
             have H1 : (if 0 ≤ x15_3 then (if x15_3 < (l2.length : Int) then ((trie_Trie_Get.f t175 (rd l2 x15_3)).bind fun t213 => ((endonymref4_Get.f kj61 t170 a1 (rd l2 x15_3)).bind fun t215 => (if t213 = t215 then (endonymlaw4_TrieBuilds.l1 kj61 t170 a1 l2 t175 (wrap64 (x15_3 + 1))) else (some false)))) else (none)) else (none)) = some true := by rw [if_pos rfl] at H; exact H
             clear H
             have H := H1
             clear H1
             by_cases c65 : 0 ≤ x15_3
             ·rw [if_pos c65] at H
              have c65b0 : decide (0 ≤ x15_3) = true := decide_eq_true c65
              clear c65
              by_cases c66 : x15_3 < (l2.length : Int)
              ·rw [if_pos c66] at H
               have c66b0 : decide (x15_3 < (l2.length : Int)) = true := decide_eq_true c66
               have c66b0_h := c66b0
               (try simp only [hl7_2] at c66b0_h)
               clear c66
               replace H := Option.bind_eq_some_iff.mp H
               obtain ⟨t213, A670, H⟩ := H
               replace H : ((endonymref4_Get.f kj61 t170 a1 (rd l2 x15_3)).bind fun t215 => (if t213 = t215 then (endonymlaw4_TrieBuilds.l1 kj61 t170 a1 l2 t175 (wrap64 (x15_3 + 1))) else (some false))) = some true := H
               have A67 := Aside0.mk A670
               clear A670
               replace H := Option.bind_eq_some_iff.mp H
               obtain ⟨t215, A680, H⟩ := H
               replace H : (if t213 = t215 then (endonymlaw4_TrieBuilds.l1 kj61 t170 a1 l2 t175 (wrap64 (x15_3 + 1))) else (some false)) = some true := H
               have A68 := Aside0.mk A680
               clear A680
               by_cases c69 : t213 = t215
               ·rw [if_pos c69] at H
                have c69b0 : (t213 == t215) = true := beq_iff_eq.mpr c69
                have c69b1 : (t213 != t215) = false := bne_eq_false_iff_eq.mpr c69
                clear c69
                have H' := Aside0.mk H
                clear H
                try go_wp2
                have n0_ := Aside0.mk (Kd.R_drew HO_0.out)
                have n1_ := Aside0.mk (Kd.P_drew HO_9.out)
                have n2_ := Aside0.mk (below_drew1 HB.out)
                clear HO_0
                clear HO_9
                clear HB
                have HO_0 := n0_
                have HO_9 := n1_
                have HB := n2_
                clear n0_ n1_ n2_
                have p212 : 0 ≤ (x15_3 : Int) := of_decide_eq_true (by first | (with_reducible assumption) | assumption)
                have q212 : x15_3 < (l2.length : Int) := of_decide_eq_true (by first | (with_reducible assumption) | assumption)
                obtain ⟨ad212, e212, hx212_0⟩ := Kd.at_int HR2.out x15_3 p212 q212
                have hw212_0 := hx212_0
                cases e212
                replace hx212_0 := (HB.out.cell (World.block_lt_of_cell? w _ hx212_0)).trans hx212_0
                replace p212 := eq_true p212
                replace q212 := eq_true q212
                have p214 : 0 ≤ (x15_3 : Int) := of_decide_eq_true (by first | (with_reducible assumption) | assumption)
                have q214 : x15_3 < (l2.length : Int) := of_decide_eq_true (by first | (with_reducible assumption) | assumption)
                obtain ⟨ad214, e214, hx214_0⟩ := Kd.at_int HR2.out x15_3 p214 q214
                have hw214_0 := hx214_0
                obtain rfl : ad212 = ad214 := (by injection e214)
                replace hx214_0 := (HB.out.cell (World.block_lt_of_cell? w _ hx214_0)).trans hx214_0
                replace p214 := eq_true p214
                replace q214 := eq_true q214
                refine start_ (n := 14) (S := fun w' => w'.cell? (ad212.add (x15_3).toNat) = some (.int .i64 (rd l2 x15_3)) ∧ w'.cell? (ad212.add (x15_3).toNat) = some (.int .i64 (rd l2 x15_3))) (ds := []) #[false, false, false, false, false, false, false, false, false, false, false, false, false, false] (by kernel_rfl) rfl rfl ⟨((HB.out.cell (World.block_lt_of_cell? w _ hw212_0)).trans hw212_0), ((HB.out.cell (World.block_lt_of_cell? w _ hw214_0)).trans hw214_0)⟩ (fun hHeld => ?_); refine with_tabW endonymlaw4_TrieBuilds.tab18 endonymlaw4_TrieBuilds.bits18 (fun HT_ HW_ => ?_)
                generalize wc.drew = w70 at HO_0 HO_9 HB hx212_0 hx214_0 hHeld ⊢
                refine pure_ (i := 0) (N := some 179) (v := ?_) (a' := ?_) #[x_, o_, o_, o_, o_, o_, o_, o_, o_, o_, o_, o_, o_, o_] rfl rfl (any_of HT_.out (by kernel_rfl)) (fun _ _ _ h => h) (Or.inl ⟨by rfl, ?_⟩) ?_ ?_; rotate_left; (·(intro w'; go_simp <;> with_reducible rfl)); rotate_left; (·(simp only [Act.put, List.setIfInBounds_toArray, List.set_cons_zero, List.set_cons_succ, i64_w, i32_w] <;> rfl))
                refine pure_ (i := 1) (N := some 180) (v := ?_) (a' := ?_) #[x_, x_, o_, o_, o_, o_, o_, o_, o_, o_, o_, o_, o_, o_] rfl rfl (any_of HT_.out (by kernel_rfl)) (fun _ _ _ h => h) (Or.inl ⟨by rfl, ?_⟩) ?_ ?_; rotate_left; (·(intro w'; go_simp <;> with_reducible rfl)); rotate_left; (·(simp only [Act.put, List.setIfInBounds_toArray, List.set_cons_zero, List.set_cons_succ, i64_w, i32_w] <;> rfl))
                refine pure_ (i := 2) (N := some 181) (v := ?_) (a' := ?_) #[x_, x_, x_, o_, o_, o_, o_, o_, o_, o_, o_, o_, o_, o_] rfl rfl (any_of HT_.out (by kernel_rfl)) (fun _ _ _ h => h) (Or.inl ⟨by rfl, ?_⟩) ?_ ?_; rotate_left; (·(intro w'; go_simp <;> with_reducible rfl)); rotate_left; (·(simp only [Act.put, List.setIfInBounds_toArray, List.set_cons_zero, List.set_cons_succ, i64_w, i32_w] <;> rfl))
                refine pure_ (i := 3) (N := some 182) (v := ?_) (a' := ?_) #[x_, x_, x_, x_, o_, o_, o_, o_, o_, o_, o_, o_, o_, o_] rfl rfl (any_of HT_.out (by kernel_rfl)) (fun _ _ _ h => h) (Or.inl ⟨by rfl, ?_⟩) ?_ ?_; rotate_left; (·(intro w'; go_simp <;> with_reducible rfl)); rotate_left; (·(simp only [Act.put, List.setIfInBounds_toArray, List.set_cons_zero, List.set_cons_succ, i64_w, i32_w] <;> rfl))
                refine pure_ (i := 6) (N := some 185) (v := ?_) (a' := ?_) #[x_, x_, x_, x_, o_, o_, x_, o_, o_, o_, o_, o_, o_, o_] rfl rfl (any_of HT_.out (by kernel_rfl)) (fun _ _ _ h => h) (Or.inl ⟨by rfl, ?_⟩) ?_ ?_; rotate_left; (·(intro w'; go_simp <;> with_reducible rfl)); rotate_left; (·(simp only [Act.put, List.setIfInBounds_toArray, List.set_cons_zero, List.set_cons_succ, i64_w, i32_w] <;> rfl))
                refine pure_ (i := 7) (N := some 186) (v := ?_) (a' := ?_) #[x_, x_, x_, x_, o_, o_, x_, x_, o_, o_, o_, o_, o_, o_] rfl rfl (any_of HT_.out (by kernel_rfl)) (fun _ _ _ h => h) (Or.inl ⟨by rfl, ?_⟩) ?_ ?_; rotate_left; (·(intro w'; go_simp <;> with_reducible rfl)); rotate_left; (·(simp only [Act.put, List.setIfInBounds_toArray, List.set_cons_zero, List.set_cons_succ, i64_w, i32_w] <;> rfl))
                refine pure_ (i := 8) (N := some 187) (v := ?_) (a' := ?_) #[x_, x_, x_, x_, o_, o_, x_, x_, x_, o_, o_, o_, o_, o_] rfl rfl (any_of HT_.out (by kernel_rfl)) (fun _ _ _ h => h) (Or.inl ⟨by rfl, ?_⟩) ?_ ?_; rotate_left; (·(intro w'; go_simp <;> with_reducible rfl)); rotate_left; (·(simp only [Act.put, List.setIfInBounds_toArray, List.set_cons_zero, List.set_cons_succ, i64_w, i32_w] <;> rfl))
                refine pure_ (i := 9) (N := some 188) (v := ?_) (a' := ?_) #[x_, x_, x_, x_, o_, o_, x_, x_, x_, x_, o_, o_, o_, o_] rfl rfl (any_of HT_.out (by kernel_rfl)) (fun _ _ _ h => h) (Or.inl ⟨by rfl, ?_⟩) ?_ ?_; rotate_left; (·(intro w'; go_simp <;> with_reducible rfl)); rotate_left; (·(simp only [Act.put, List.setIfInBounds_toArray, List.set_cons_zero, List.set_cons_succ, i64_w, i32_w] <;> rfl))
                refine pure_ (i := 10) (N := some 189) (v := ?_) (a' := ?_) #[x_, x_, x_, x_, o_, o_, x_, x_, x_, x_, x_, o_, o_, o_] rfl rfl (any_of HT_.out (by kernel_rfl)) (fun _ _ _ h => h) (Or.inl ⟨by rfl, ?_⟩) ?_ ?_; rotate_left; (·(intro w'; go_simp <;> with_reducible rfl)); rotate_left; (·(simp only [Act.put, List.setIfInBounds_toArray, List.set_cons_zero, List.set_cons_succ, i64_w, i32_w] <;> rfl))
                refine take_ (i := 4) (N := some 183) (v := ?_) (a' := ?_) #[true, true, true, true, true, false, true, true, true, true, true, false, false, false] rfl rfl (take_ofW HT_.out HW_.out (by kernel_rfl)) (fun _ _ _ h => h) (Or.inl ⟨by rfl, ?_⟩) hHeld ?_ ?_
                rotate_left
                ·rintro w' ⟨s0, s1⟩
                 go_simp
                 with_reducible rfl
                rotate_left
                ·simp only [Act.put, List.setIfInBounds_toArray, List.set_cons_zero, List.set_cons_succ, i64_w, i32_w]
                 rfl
                refine take_ (i := 11) (N := some 190) (v := ?_) (a' := ?_) #[true, true, true, true, true, false, true, true, true, true, true, true, false, false] rfl rfl (take_ofW HT_.out HW_.out (by kernel_rfl)) (fun _ _ _ h => h) (Or.inl ⟨by rfl, ?_⟩) hHeld ?_ ?_
                rotate_left
                ·rintro w' ⟨s0, s1⟩
                 go_simp
                 with_reducible rfl
                rotate_left
                ·simp only [Act.put, List.setIfInBounds_toArray, List.set_cons_zero, List.set_cons_succ, i64_w, i32_w]
                 rfl
                refine one_ (i := 5) (N := some 184) #[true, true, true, true, true, true, true, true, true, true, true, true, false, false] rfl rfl (one_of HT_.out (by kernel_rfl)) (by decide) (fun K hK => ?_)
                refine goes_ Try.func13 (by kernel_rfl) rfl #[.pointer Ao40, .int .i64 (rd l2 x15_3)] (by rfl) rfl rfl (by (try simp only [List.map_toArray, List.map_cons, List.map_nil]); first | done | rfl | (simp only [List.length_drop, List.length_take]; rfl)) ?_
                with_reducible refine (trie_Trie_Get.calls _ t175 (rd l2 x15_3) t213 _ ?side1 A67.out).mono ?_
                (case side1 => repeat (first | exact (Kd.P_reads' HO_9.out).2.2 | (with_reducible refine Kd.PC_alloc ?_ _) | (with_reducible refine Kd.PC_drewN ?_ _) | (with_reducible refine Kd.PC_drew ?_)))
                rintro e w' ⟨rfl, ⟨nd, rfl⟩⟩
                refine ⟨_, rfl, ?_⟩
                refine hK.out _ _ ⟨((HB.out.cell (World.block_lt_of_cell? w _ hw212_0)).trans hw212_0), ((HB.out.cell (World.block_lt_of_cell? w _ hw214_0)).trans hw214_0)⟩ (fun hHeld => ?_)
                clear hK K
                refine norm_ (a' := ?_) ?_ ?_
                rotate_left
                ·show Act.put _ (some 184) _ = _
                 simp only [Act.put, List.setIfInBounds_toArray, List.set_cons_zero, List.set_cons_succ, i64_w, i32_w]
                 rfl
                refine one_ (i := 12) (N := some 191) #[true, true, true, true, true, true, true, true, true, true, true, true, true, false] rfl rfl (one_of HT_.out (by kernel_rfl)) (by decide) (fun K hK => ?_)
                refine goes_ Try.func14 (by kernel_rfl) rfl #[.slice Ao9 t170.length co9, .int .i64 a1, .int .i64 (rd l2 x15_3)] (by rfl) rfl rfl (by (try simp only [List.map_toArray, List.map_cons, List.map_nil]); first | done | rfl | (simp only [List.length_drop, List.length_take]; rfl)) ?_
                with_reducible refine (endonymref4_Get.calls kj61 _ _ t170 a1 (rd l2 x15_3) t215 _ ?side1 ?side2 A68.out).mono ?_
                (case side1 => repeat (first | exact (Kd.R_reads' HO_0.out).2.2 | (with_reducible refine Kd.C_alloc ?_ _) | (with_reducible refine Kd.C_drewN ?_ _) | (with_reducible refine Kd.C_drew ?_)))
                (case side2 => exact (Kd.R_reads' HO_0.out).2.1)
                rintro e w' ⟨rfl, ⟨nd, rfl⟩⟩
                refine ⟨_, rfl, ?_⟩
                refine hK.out _ _ ⟨((HB.out.cell (World.block_lt_of_cell? w _ hw212_0)).trans hw212_0), ((HB.out.cell (World.block_lt_of_cell? w _ hw214_0)).trans hw214_0)⟩ (fun hHeld => ?_)
                clear hK K
                refine norm_ (a' := ?_) ?_ ?_
                rotate_left
                ·show Act.put _ (some 191) _ = _
                 simp only [Act.put, List.setIfInBounds_toArray, List.set_cons_zero, List.set_cons_succ, i64_w, i32_w]
                 rfl
                refine pure_ (i := 13) (N := some 192) (v := ?_) (a' := ?_) #[x_, x_, x_, x_, x_, x_, x_, x_, x_, x_, x_, x_, x_, x_] rfl rfl (any_of HT_.out (by kernel_rfl)) (fun _ _ _ h => h) (Or.inl ⟨by rfl, ?_⟩) ?_ ?_; rotate_left; (·(intro w'; go_simp <;> with_reducible rfl)); rotate_left; (·(simp only [Act.put, List.setIfInBounds_toArray, List.set_cons_zero, List.set_cons_succ, i64_w, i32_w] <;> rfl))
                refine done_ (done_of HT_.out (by kernel_rfl)) ?_
                try go_wp2
                go_roundg kj61
                case measure => have := HJ6.out; have := HK2.out; have := HK3.out; have := HJ61.out; omega
                case rel => exact ⟨(wrap64 (x15_3 + 1)), (by first | rfl | (simp; done) | (simp [*]; done)), H', ⟨by have := HJ6.out; have := HK2.out; have := HK3.out; have := HJ61.out; omega⟩, ⟨by (try simp only [hl7_2]); (with_reducible repeat (first | apply Kd.R_alloc | apply Kd.R_drewN | apply Kd.R_drew)); exact HO_0.out⟩, ⟨by (try simp only [hl7_2]); (with_reducible repeat (first | apply Kd.P_alloc | apply Kd.P_drewN | apply Kd.P_drew)); exact HO_9.out⟩, ⟨by repeat (first | (with_reducible first | exact HB.out | apply below_alloc | apply pw_below_drewN | apply below_drew1) | exact HB.out)⟩⟩
               ·rw [if_neg c69] at H
                have c69b0 : (t213 == t215) = false := beq_eq_false_iff_ne.mpr c69
                have c69b1 : (t213 != t215) = true := bne_iff_ne.mpr c69
                exact absurd H (by simp)
              ·rw [if_neg c66] at H
               exact absurd H (by simp)
             ·rw [if_neg c65] at H
              exact absurd H (by simp)
            ·replace c64 := Bool.eq_false_iff.mpr c64
             subst c64
             have H1 : ((trie_Trie_Default.f t175).bind fun t211 => (some (t211 == a1))) = some true := by rw [if_neg (show ¬ (false = true) by decide)] at H; exact H
             clear H
             have H := H1
             clear H1
             replace H := Option.bind_eq_some_iff.mp H
             obtain ⟨t211, A710, H⟩ := H
             replace H : (some (t211 == a1)) = some true := H
             have A71 := Aside0.mk A710
             clear A710
             have hR_ := Option.some.inj H
             go_wp2_with (first | ((with_reducible refine gate_callee (f := 15) rfl ?_); refine goesL_ (some 194) rfl rfl Try.func15 (by kernel_rfl) rfl #[.pointer Ao40] rfl (by (try simp only [List.map_toArray, List.map_cons, List.map_nil]); first | done | rfl | (simp only [List.length_drop, List.length_take]; rfl)) ?_; (with_reducible refine (trie_Trie_Default.calls _ t175 t211 _ ?side1 A71.out).mono ?_); (case side1 => repeat (first | exact (Kd.P_reads' HO_9.out).2.2 | (with_reducible refine Kd.PC_alloc ?_ _) | (with_reducible refine Kd.PC_drewN ?_ _) | (with_reducible refine Kd.PC_drew ?_))); rintro e w' ⟨rfl, ⟨nd, rfl⟩⟩; refine ⟨_, rfl, ?_⟩))
             go_ret
             exact ⟨by first | rfl | (rw [← hR_]; first | rfl | (simp only [hR_]; rfl)) | (simp only [hR_]; rfl) | (simp only [hR_]; done) | (simp [errW_none, errW_some] <;> rfl) | (simp [*, errW_none, errW_some] <;> rfl), by repeat (first | (with_reducible first | exact HB.out | apply below_alloc | apply pw_below_drewN | apply below_drew1) | exact HB.out)⟩

/-- THE ONE PURE STATEMENT of endonymlaw4_TrieBuilds: yours. -/
def endonymlaw4_TrieBuilds.Pure : Prop := ∀ (l0 : List (S35)) (a1 : Int) (l2 : List Int), l0.length ≤ maxLen → l0.length * 24 ≤ 140737488351232 → (∀ x ∈ l0, S35.wf x) → (Lit.int .i64 a1).wf = true → l2.length ≤ maxLen → l2.length * 8 ≤ 140737488351232 → (∀ x ∈ l2, (Lit.int .i64 x).wf = true) → ∃ k, endonymlaw4_TrieBuilds.f k l0 a1 l2 = some true
theorem endonymlaw4_TrieBuilds.walk (P : endonymlaw4_TrieBuilds.Pure) (a0 : Option Addr) (len0 cap0 : Nat) (l0 : List (S35)) (a1 : Int) (a2 : Option Addr) (len2 cap2 : Nat) (z2 : List Int) (w : World) (w0 : l0.length = len0 ∧ len0 ≤ cap0 ∧ Kd.C k35 w a0 len0 l0 ∧ l0.length * 24 ≤ 140737488351232 ∧ ∀ x ∈ l0, S35.wf x) (w1 : (Lit.int .i64 a1).wf = true) (w2 : (a2 = none ∧ len2 = 0 ∧ cap2 = 0 ∧ z2 = []) ∨ ∃ x, a2 = some x ∧ len2 ≤ cap2 ∧ cap2 ≤ maxLen ∧ z2.length = cap2 ∧ (∀ i, i < z2.length → w.cell? (x.add i) = some (.int .i64 (z2.getD i 0))) ∧ ∀ n ∈ z2, (Lit.int .i64 n).wf = true) (y2 : len2 * 8 ≤ 140737488351232) :
  Calls Try.prog 3 #[.slice a0 len0 cap0, .int .i64 a1, .slice a2 len2 cap2] w fun e w' => e = .returned (.bool true) ∧ Below w.heap.size w w' := by
 obtain ⟨rfl, hc0, hr0, y0, hw0⟩ := w0
 have hm0 : l0.length ≤ maxLen := hr0.2.1
 obtain ⟨l2, rfl, hr2, hm2, hw2, hc2⟩ := ReadsInt.ofRowC w2
 obtain ⟨k, h⟩ := P l0 a1 l2 hm0 y0 hw0 w1 hm2 y2 hw2
 refine (endonymlaw4_TrieBuilds.calls k _ _ l0 a1 _ _ l2 w hr0 hc0 (Kd.C_of_reads (d := (0 : Int)) (h1 := fun _ => rfl) hr2) hc2 h).mono ?_
 rintro e w' ⟨rfl, hd⟩
 exact ⟨rfl, hd⟩

end Go.Proofs.Ytiaodapgankjnaa.Q
