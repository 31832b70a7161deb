-- Written by wip/tools/pr.py of this session over the kit's print (widened); the words are the kit's print's own. Not trusted: Lean checks it.
import Derived.Test.YtiaodapgankjnaaQx0
import Derived.Test.YtiaodapgankjnaaQx2
import Derived.Test.YtiaodapgankjnaaQx4
import Derived.Test.YtiaodapgankjnaaQx5
import Derived.Test.YtiaodapgankjnaaQx6
import Derived.Test.YtiaodapgankjnaaQx9
import Derived.Test.YtiaodapgankjnaaQx13
import Derived.Test.YtiaodapgankjnaaQx14
namespace Go.Proofs.Ytiaodapgankjnaa.Q
open Go.RowKit Go.Proofs.YtiaodapgankjnaaW.PrintWords Go.Proofs.YtiaodapgankjnaaW.PrintLast Go.Proofs.YtiaodapgankjnaaW.PrintMore
attribute [local go_sem] max2_int min2_int max_two min_two max_three min_three max_four min_four   -- for this text's walks alone
set_option linter.unusedVariables false
set_option linter.unusedSimpArgs false

attribute [local go_sem high] eqA50
theorem wpList_load_arr_on {P : Program} {ops : Array Oper} {rest : List Oper} {o : Oper} {a : Act} {w : World} {Q : Exit → Act → World → Prop} {k : IntKind} {n : Nat} {t e : TypeId} {ad : Addr} {xs : List Int} (x : Operand) (ho : o.op = .load t x) (hx : a.eval x = .pointer (some ad))
    (hat : ArrAt k n w ad xs) (ht : P.underlying t = some (.array n e)) (hi : (P.info? t).map (·.size) = some n) (hw : Region.wanted o (yielded ops a.tmps) = true) (h : wpList P ops Q rest (a.put o.dst (.agg (arrV k n xs))) w) : wpList P ops Q (o :: rest) a w := by
  refine wpList_step fun K hK => ?_
  rw [if_pos hw]
  unfold Oper.wp execOp
  simp only [ho, hx, Instr.loadAt, Instr.sureAddr, Sem.run_bind, Sem.run_pure, Result.andThen_ok, run_load_arr hat ht hi]
  exact hK _ _ h
theorem wpList_build_arr_on {P : Program} {ops : Array Oper} {rest : List Oper} {o : Oper} {a : Act} {w : World} {Q : Exit → Act → World → Prop} {k : IntKind} {n : Nat} {t : TypeId} (ho : o.op = .build t #[]) (hb : P.built t [] = some (arrV k n []))
    (hw : Region.wanted o (yielded ops a.tmps) = true) (h : wpList P ops Q rest (a.put o.dst (.agg (arrV k n []))) w) : wpList P ops Q (o :: rest) a w := by
  refine wpList_step fun K hK => ?_
  rw [if_pos hw]
  have hbs : (P.built t ((#[] : Array (Nat × Operand)).map fun (i, x) => (i, a.eval x)).toList).isSome = true := by simpa using (by rw [hb]; rfl : (P.built t []).isSome = true)
  refine wp_build t #[] ho hbs (hK _ _ ?_)
  simp only [List.map_toArray, List.map_nil]
  rw [hb]
  exact h
/-! ### endonymlaw4_TrieBlocks: function 5 -/
mutual
def endonymlaw4_TrieBlocks.j0 : Nat → List (S35) → Int → Int → List (S57) → Bool → Option (Bool)
 | 0, _, _, _, _, _ => none
 | k + 1, x0, x1, x2, x7, x56 => if x56 = true then (some false) else ((endonymref4_Blocks.f k x0 x1).bind fun bt302 => ((trie_Trie_Index.f x7).bind fun t308 => ((trie_Trie_Index.f x7).bind fun t311 => ((trie_Trie_Ranges.f k x7).bind fun t314 => ((trie_Trie_Ranges.f k x7).bind fun t317 => (if (t308.length : Int) = (bt302.1.length : Int) then ((trie_Trie_Blocks.f x7).bind fun t320 => (if t320 = (bt302.2.length : Int) then ((endonymref4_Ranges.f k x0 x1).bind fun t321 => ((endonymref4_Same.f k t314 t321).bind fun t324 => (endonymlaw4_TrieBlocks.j1 k x0 x1 x2 x7 bt302.1 bt302.2 t308 t311 t314 t317 (!t324)))) else (endonymlaw4_TrieBlocks.j1 k x0 x1 x2 x7 bt302.1 bt302.2 t308 t311 t314 t317 true))) else (endonymlaw4_TrieBlocks.j1 k x0 x1 x2 x7 bt302.1 bt302.2 t308 t311 t314 t317 true)))))))
def endonymlaw4_TrieBlocks.j1 : Nat → List (S35) → Int → Int → List (S57) → List Int → List (List Int) → List Int → List Int → List (S35) → List (S35) → Bool → Option (Bool)
 | 0, _, _, _, _, _, _, _, _, _, _, _ => none
 | k + 1, x0, x1, x2, x7, x12, x13, x14, x15, x16, x17, x90 => if x90 = true then (some false) else (endonymlaw4_TrieBlocks.l0 k x0 x1 x2 x7 x12 x13 x14 x15 x16 x17 0)
def endonymlaw4_TrieBlocks.l0 : Nat → List (S35) → Int → Int → List (S57) → List Int → List (List Int) → List Int → List Int → List (S35) → List (S35) → Int → Option (Bool)
 | 0, _, _, _, _, _, _, _, _, _, _, _ => none
 | k + 1, x0, x1, x2, x7, x12, x13, x14, x15, x16, x17, x18 => if x18 < (x14.length : Int) then (if 0 ≤ x18 then (if x18 < (x12.length : Int) then (if (rd x14 x18) = (rd x12 x18) then (endonymlaw4_TrieBlocks.l0 k x0 x1 x2 x7 x12 x13 (x14.set (x18 : Int).toNat 65535) x15 x16 x17 (wrap64 (x18 + 1))) else (some false)) else (none)) else (none)) else (endonymlaw4_TrieBlocks.l1 k x0 x1 x2 x7 x12 x13 x15 x16 x17 0)
def endonymlaw4_TrieBlocks.l1 : Nat → List (S35) → Int → Int → List (S57) → List Int → List (List Int) → List Int → List (S35) → List (S35) → Int → Option (Bool)
 | 0, _, _, _, _, _, _, _, _, _, _ => none
 | k + 1, x0, x1, x2, x7, x12, x13, x15, x16, x17, x19 => if x19 < (x16.length : Int) then (if 0 ≤ x19 then (endonymlaw4_TrieBlocks.l1 k x0 x1 x2 x7 x12 x13 x15 (x16.set (x19 : Int).toNat (⟨0, 0, 0⟩ : S35)) x17 (wrap64 (x19 + 1))) else (none)) else (endonymlaw4_TrieBlocks.l2 k x0 x1 x2 x7 x12 x13 x15 x17 0)
def endonymlaw4_TrieBlocks.l2 : Nat → List (S35) → Int → Int → List (S57) → List Int → List (List Int) → List Int → List (S35) → Int → Option (Bool)
 | 0, _, _, _, _, _, _, _, _, _ => none
 | k + 1, x0, x1, x2, x7, x12, x13, x15, x17, x20 => if x20 < (x13.length : Int) then (endonymlaw4_TrieBlocks.j5 k x0 x1 x2 x7 x12 x13 x15 x17 x20 (decide (x20 < 300))) else (endonymlaw4_TrieBlocks.j5 k x0 x1 x2 x7 x12 x13 x15 x17 x20 false)
def endonymlaw4_TrieBlocks.j5 : Nat → List (S35) → Int → Int → List (S57) → List Int → List (List Int) → List Int → List (S35) → Int → Bool → Option (Bool)
 | 0, _, _, _, _, _, _, _, _, _, _ => none
 | k + 1, x0, x1, x2, x7, x12, x13, x15, x17, x20, x126 => if x126 = true then ((trie_Trie_Block.f x7 x20).bind fun bt329 => (if bt329.2 = true then (if 0 ≤ x20 then (if x20 < (x13.length : Int) then (if ((arrEq 64 (arrPut 64 (List.replicate 64 0) bt329.1) (rd_L4 x13 x20)) = true) then (endonymlaw4_TrieBlocks.l2 k x0 x1 x2 x7 x12 x13 x15 x17 (wrap64 (x20 + 1))) else (some false)) else (none)) else (none)) else (some false))) else ((trie_Trie_Block.f x7 x2).bind fun bt337 => ((some (arrPut 64 (List.replicate 64 0) bt337.1 : List Int)).bind fun y343 => (if x2 < 0 then (if bt337.2 = true then (endonymlaw4_TrieBlocks.j6 k x0 x1 x7 x12 x15 x17 true) else (endonymlaw4_TrieBlocks.j6 k x0 x1 x7 x12 x15 x17 (!(arrEq 64 y343 ([] : List Int))))) else (if x2 ≥ (x13.length : Int) then (if bt337.2 = true then (endonymlaw4_TrieBlocks.j6 k x0 x1 x7 x12 x15 x17 true) else (endonymlaw4_TrieBlocks.j6 k x0 x1 x7 x12 x15 x17 (!(arrEq 64 y343 ([] : List Int))))) else (endonymlaw4_TrieBlocks.j6 k x0 x1 x7 x12 x15 x17 false)))))
def endonymlaw4_TrieBlocks.j6 : Nat → List (S35) → Int → List (S57) → List Int → List Int → List (S35) → Bool → Option (Bool)
 | 0, _, _, _, _, _, _, _ => none
 | k + 1, x0, x1, x7, x12, x15, x17, x166 => if x166 = true then (some false) else (if (x15.length : Int) = (x12.length : Int) then (if 17407 < (x15.length : Int) then (if 17407 < (x12.length : Int) then (if (rd x15 17407) = (rd x12 17407) then ((trie_Trie_Index.f x7).bind fun t346 => (if 0 < (t346.length : Int) then (if 0 < (x12.length : Int) then (if (rd t346 0) = (rd x12 0) then ((endonymref4_Ranges.f k x0 x1).bind fun t351 => ((endonymref4_Same.f k x17 t351).bind fun t354 => (if t354 = true then ((trie_Trie_Ranges.f k x7).bind fun t355 => ((endonymref4_Same.f k t355 x17).bind fun t358 => (some t358))) else (some false)))) else (some false)) else (none)) else (none))) else (some false)) else (none)) else (none)) else (some false))
end
def endonymlaw4_TrieBlocks.f (k : Nat) (l0 : List (S35)) (a1 : Int) (a2 : Int) : Option (Bool) := (endonymlaw4_few.f l0).bind fun bt287 => ((trie_Build.f k bt287.2 a1).bind fun bt293 => ((endonymref4_Check.f k bt287.2 a1).bind fun bt298 => (if bt298.2 = 0 then ((endonymlaw4_told.f k).bind fun t301 => (if t301 = true then (endonymlaw4_TrieBlocks.j0 k bt287.2 a1 a2 bt293.1 (bt293.1.isEmpty)) else (endonymlaw4_TrieBlocks.j0 k bt287.2 a1 a2 bt293.1 true))) else ((endonymlaw4_told.f k).bind fun t300 => (if t300 = true then (some (bt293.2.2 == bt298.2)) else (some false))))))
theorem endonymlaw4_TrieBlocks.mono_l : ∀ k, (∀ y0 y1 y2 y3 y4, LeO (endonymlaw4_TrieBlocks.j0 k y0 y1 y2 y3 y4) (endonymlaw4_TrieBlocks.j0 (k + 1) y0 y1 y2 y3 y4)) ∧ (∀ y0 y1 y2 y3 y4 y5 y6 y7 y8 y9 y10, LeO (endonymlaw4_TrieBlocks.j1 k y0 y1 y2 y3 y4 y5 y6 y7 y8 y9 y10) (endonymlaw4_TrieBlocks.j1 (k + 1) y0 y1 y2 y3 y4 y5 y6 y7 y8 y9 y10)) ∧ (∀ y0 y1 y2 y3 y4 y5 y6 y7 y8 y9 y10, LeO (endonymlaw4_TrieBlocks.l0 k y0 y1 y2 y3 y4 y5 y6 y7 y8 y9 y10) (endonymlaw4_TrieBlocks.l0 (k + 1) y0 y1 y2 y3 y4 y5 y6 y7 y8 y9 y10)) ∧ (∀ y0 y1 y2 y3 y4 y5 y6 y7 y8 y9, LeO (endonymlaw4_TrieBlocks.l1 k y0 y1 y2 y3 y4 y5 y6 y7 y8 y9) (endonymlaw4_TrieBlocks.l1 (k + 1) y0 y1 y2 y3 y4 y5 y6 y7 y8 y9)) ∧ (∀ y0 y1 y2 y3 y4 y5 y6 y7 y8, LeO (endonymlaw4_TrieBlocks.l2 k y0 y1 y2 y3 y4 y5 y6 y7 y8) (endonymlaw4_TrieBlocks.l2 (k + 1) y0 y1 y2 y3 y4 y5 y6 y7 y8)) ∧ (∀ y0 y1 y2 y3 y4 y5 y6 y7 y8 y9, LeO (endonymlaw4_TrieBlocks.j5 k y0 y1 y2 y3 y4 y5 y6 y7 y8 y9) (endonymlaw4_TrieBlocks.j5 (k + 1) y0 y1 y2 y3 y4 y5 y6 y7 y8 y9)) ∧ (∀ y0 y1 y2 y3 y4 y5 y6, LeO (endonymlaw4_TrieBlocks.j6 k y0 y1 y2 y3 y4 y5 y6) (endonymlaw4_TrieBlocks.j6 (k + 1) y0 y1 y2 y3 y4 y5 y6))
 | 0 => ⟨fun _ _ _ _ _ r h => by simp [endonymlaw4_TrieBlocks.j0] at h, fun _ _ _ _ _ _ _ _ _ _ _ r h => by simp [endonymlaw4_TrieBlocks.j1] at h, fun _ _ _ _ _ _ _ _ _ _ _ r h => by simp [endonymlaw4_TrieBlocks.l0] at h, fun _ _ _ _ _ _ _ _ _ _ r h => by simp [endonymlaw4_TrieBlocks.l1] at h, fun _ _ _ _ _ _ _ _ _ r h => by simp [endonymlaw4_TrieBlocks.l2] at h, fun _ _ _ _ _ _ _ _ _ _ r h => by simp [endonymlaw4_TrieBlocks.j5] at h, fun _ _ _ _ _ _ _ r h => by simp [endonymlaw4_TrieBlocks.j6] at h⟩
 | k + 1 => by
  obtain ⟨ih0, ih1, ih2, ih3, ih4, ih5, ih6⟩ := endonymlaw4_TrieBlocks.mono_l k
  refine ⟨?_, ?_, ?_, ?_, ?_, ?_, ?_⟩
  ·intro y0 y1 y2 y3 y4
   unfold endonymlaw4_TrieBlocks.j0
   repeat' first
   | (with_reducible exact ih0 _ _ _ _ _)
   | (with_reducible exact ih1 _ _ _ _ _ _ _ _ _ _ _)
   | (with_reducible exact ih2 _ _ _ _ _ _ _ _ _ _ _)
   | (with_reducible exact ih3 _ _ _ _ _ _ _ _ _ _)
   | (with_reducible exact ih4 _ _ _ _ _ _ _ _ _)
   | (with_reducible exact ih5 _ _ _ _ _ _ _ _ _ _)
   | (with_reducible exact ih6 _ _ _ _ _ _ _)
   | (with_reducible exact endonymlaw4_told.mono _)
   | (with_reducible exact endonymref4_Blocks.mono _ _ _)
   | (with_reducible exact endonymref4_Check.mono _ _ _)
   | (with_reducible exact endonymref4_Ranges.mono _ _ _)
   | (with_reducible exact endonymref4_Same.mono _ _ _)
   | (with_reducible exact trie_Build.mono _ _ _)
   | (with_reducible exact trie_Trie_Ranges.mono _ _)
   | (with_reducible exact LeO.refl _)
   | (with_reducible exact LeO.none _)
   | (with_reducible refine LeO.ite ?_ ?_)
   | (with_reducible refine LeO.bind ?_ (fun _ => ?_))
   | exact ih0 _ _ _ _ _
   | exact ih1 _ _ _ _ _ _ _ _ _ _ _
   | exact ih2 _ _ _ _ _ _ _ _ _ _ _
   | exact ih3 _ _ _ _ _ _ _ _ _ _
   | exact ih4 _ _ _ _ _ _ _ _ _
   | exact ih5 _ _ _ _ _ _ _ _ _ _
   | exact ih6 _ _ _ _ _ _ _
   | exact endonymlaw4_told.mono _
   | exact endonymref4_Blocks.mono _ _ _
   | exact endonymref4_Check.mono _ _ _
   | exact endonymref4_Ranges.mono _ _ _
   | exact endonymref4_Same.mono _ _ _
   | exact trie_Build.mono _ _ _
   | exact trie_Trie_Ranges.mono _ _
   | exact LeO.none _
   | refine LeO.ite ?_ ?_
   | refine LeO.bind ?_ (fun _ => ?_)
  ·intro y0 y1 y2 y3 y4 y5 y6 y7 y8 y9 y10
   unfold endonymlaw4_TrieBlocks.j1
   repeat' first
   | (with_reducible exact ih0 _ _ _ _ _)
   | (with_reducible exact ih1 _ _ _ _ _ _ _ _ _ _ _)
   | (with_reducible exact ih2 _ _ _ _ _ _ _ _ _ _ _)
   | (with_reducible exact ih3 _ _ _ _ _ _ _ _ _ _)
   | (with_reducible exact ih4 _ _ _ _ _ _ _ _ _)
   | (with_reducible exact ih5 _ _ _ _ _ _ _ _ _ _)
   | (with_reducible exact ih6 _ _ _ _ _ _ _)
   | (with_reducible exact endonymlaw4_told.mono _)
   | (with_reducible exact endonymref4_Blocks.mono _ _ _)
   | (with_reducible exact endonymref4_Check.mono _ _ _)
   | (with_reducible exact endonymref4_Ranges.mono _ _ _)
   | (with_reducible exact endonymref4_Same.mono _ _ _)
   | (with_reducible exact trie_Build.mono _ _ _)
   | (with_reducible exact trie_Trie_Ranges.mono _ _)
   | (with_reducible exact LeO.refl _)
   | (with_reducible exact LeO.none _)
   | (with_reducible refine LeO.ite ?_ ?_)
   | (with_reducible refine LeO.bind ?_ (fun _ => ?_))
   | exact ih0 _ _ _ _ _
   | exact ih1 _ _ _ _ _ _ _ _ _ _ _
   | exact ih2 _ _ _ _ _ _ _ _ _ _ _
   | exact ih3 _ _ _ _ _ _ _ _ _ _
   | exact ih4 _ _ _ _ _ _ _ _ _
   | exact ih5 _ _ _ _ _ _ _ _ _ _
   | exact ih6 _ _ _ _ _ _ _
   | exact endonymlaw4_told.mono _
   | exact endonymref4_Blocks.mono _ _ _
   | exact endonymref4_Check.mono _ _ _
   | exact endonymref4_Ranges.mono _ _ _
   | exact endonymref4_Same.mono _ _ _
   | exact trie_Build.mono _ _ _
   | exact trie_Trie_Ranges.mono _ _
   | exact LeO.none _
   | refine LeO.ite ?_ ?_
   | refine LeO.bind ?_ (fun _ => ?_)
  ·intro y0 y1 y2 y3 y4 y5 y6 y7 y8 y9 y10
   unfold endonymlaw4_TrieBlocks.l0
   repeat' first
   | (with_reducible exact ih0 _ _ _ _ _)
   | (with_reducible exact ih1 _ _ _ _ _ _ _ _ _ _ _)
   | (with_reducible exact ih2 _ _ _ _ _ _ _ _ _ _ _)
   | (with_reducible exact ih3 _ _ _ _ _ _ _ _ _ _)
   | (with_reducible exact ih4 _ _ _ _ _ _ _ _ _)
   | (with_reducible exact ih5 _ _ _ _ _ _ _ _ _ _)
   | (with_reducible exact ih6 _ _ _ _ _ _ _)
   | (with_reducible exact endonymlaw4_told.mono _)
   | (with_reducible exact endonymref4_Blocks.mono _ _ _)
   | (with_reducible exact endonymref4_Check.mono _ _ _)
   | (with_reducible exact endonymref4_Ranges.mono _ _ _)
   | (with_reducible exact endonymref4_Same.mono _ _ _)
   | (with_reducible exact trie_Build.mono _ _ _)
   | (with_reducible exact trie_Trie_Ranges.mono _ _)
   | (with_reducible exact LeO.refl _)
   | (with_reducible exact LeO.none _)
   | (with_reducible refine LeO.ite ?_ ?_)
   | (with_reducible refine LeO.bind ?_ (fun _ => ?_))
   | exact ih0 _ _ _ _ _
   | exact ih1 _ _ _ _ _ _ _ _ _ _ _
   | exact ih2 _ _ _ _ _ _ _ _ _ _ _
   | exact ih3 _ _ _ _ _ _ _ _ _ _
   | exact ih4 _ _ _ _ _ _ _ _ _
   | exact ih5 _ _ _ _ _ _ _ _ _ _
   | exact ih6 _ _ _ _ _ _ _
   | exact endonymlaw4_told.mono _
   | exact endonymref4_Blocks.mono _ _ _
   | exact endonymref4_Check.mono _ _ _
   | exact endonymref4_Ranges.mono _ _ _
   | exact endonymref4_Same.mono _ _ _
   | exact trie_Build.mono _ _ _
   | exact trie_Trie_Ranges.mono _ _
   | exact LeO.none _
   | refine LeO.ite ?_ ?_
   | refine LeO.bind ?_ (fun _ => ?_)
  ·intro y0 y1 y2 y3 y4 y5 y6 y7 y8 y9
   unfold endonymlaw4_TrieBlocks.l1
   repeat' first
   | (with_reducible exact ih0 _ _ _ _ _)
   | (with_reducible exact ih1 _ _ _ _ _ _ _ _ _ _ _)
   | (with_reducible exact ih2 _ _ _ _ _ _ _ _ _ _ _)
   | (with_reducible exact ih3 _ _ _ _ _ _ _ _ _ _)
   | (with_reducible exact ih4 _ _ _ _ _ _ _ _ _)
   | (with_reducible exact ih5 _ _ _ _ _ _ _ _ _ _)
   | (with_reducible exact ih6 _ _ _ _ _ _ _)
   | (with_reducible exact endonymlaw4_told.mono _)
   | (with_reducible exact endonymref4_Blocks.mono _ _ _)
   | (with_reducible exact endonymref4_Check.mono _ _ _)
   | (with_reducible exact endonymref4_Ranges.mono _ _ _)
   | (with_reducible exact endonymref4_Same.mono _ _ _)
   | (with_reducible exact trie_Build.mono _ _ _)
   | (with_reducible exact trie_Trie_Ranges.mono _ _)
   | (with_reducible exact LeO.refl _)
   | (with_reducible exact LeO.none _)
   | (with_reducible refine LeO.ite ?_ ?_)
   | (with_reducible refine LeO.bind ?_ (fun _ => ?_))
   | exact ih0 _ _ _ _ _
   | exact ih1 _ _ _ _ _ _ _ _ _ _ _
   | exact ih2 _ _ _ _ _ _ _ _ _ _ _
   | exact ih3 _ _ _ _ _ _ _ _ _ _
   | exact ih4 _ _ _ _ _ _ _ _ _
   | exact ih5 _ _ _ _ _ _ _ _ _ _
   | exact ih6 _ _ _ _ _ _ _
   | exact endonymlaw4_told.mono _
   | exact endonymref4_Blocks.mono _ _ _
   | exact endonymref4_Check.mono _ _ _
   | exact endonymref4_Ranges.mono _ _ _
   | exact endonymref4_Same.mono _ _ _
   | exact trie_Build.mono _ _ _
   | exact trie_Trie_Ranges.mono _ _
   | exact LeO.none _
   | refine LeO.ite ?_ ?_
   | refine LeO.bind ?_ (fun _ => ?_)
  ·intro y0 y1 y2 y3 y4 y5 y6 y7 y8
   unfold endonymlaw4_TrieBlocks.l2
   repeat' first
   | (with_reducible exact ih0 _ _ _ _ _)
   | (with_reducible exact ih1 _ _ _ _ _ _ _ _ _ _ _)
   | (with_reducible exact ih2 _ _ _ _ _ _ _ _ _ _ _)
   | (with_reducible exact ih3 _ _ _ _ _ _ _ _ _ _)
   | (with_reducible exact ih4 _ _ _ _ _ _ _ _ _)
   | (with_reducible exact ih5 _ _ _ _ _ _ _ _ _ _)
   | (with_reducible exact ih6 _ _ _ _ _ _ _)
   | (with_reducible exact endonymlaw4_told.mono _)
   | (with_reducible exact endonymref4_Blocks.mono _ _ _)
   | (with_reducible exact endonymref4_Check.mono _ _ _)
   | (with_reducible exact endonymref4_Ranges.mono _ _ _)
   | (with_reducible exact endonymref4_Same.mono _ _ _)
   | (with_reducible exact trie_Build.mono _ _ _)
   | (with_reducible exact trie_Trie_Ranges.mono _ _)
   | (with_reducible exact LeO.refl _)
   | (with_reducible exact LeO.none _)
   | (with_reducible refine LeO.ite ?_ ?_)
   | (with_reducible refine LeO.bind ?_ (fun _ => ?_))
   | exact ih0 _ _ _ _ _
   | exact ih1 _ _ _ _ _ _ _ _ _ _ _
   | exact ih2 _ _ _ _ _ _ _ _ _ _ _
   | exact ih3 _ _ _ _ _ _ _ _ _ _
   | exact ih4 _ _ _ _ _ _ _ _ _
   | exact ih5 _ _ _ _ _ _ _ _ _ _
   | exact ih6 _ _ _ _ _ _ _
   | exact endonymlaw4_told.mono _
   | exact endonymref4_Blocks.mono _ _ _
   | exact endonymref4_Check.mono _ _ _
   | exact endonymref4_Ranges.mono _ _ _
   | exact endonymref4_Same.mono _ _ _
   | exact trie_Build.mono _ _ _
   | exact trie_Trie_Ranges.mono _ _
   | exact LeO.none _
   | refine LeO.ite ?_ ?_
   | refine LeO.bind ?_ (fun _ => ?_)
  ·intro y0 y1 y2 y3 y4 y5 y6 y7 y8 y9
   unfold endonymlaw4_TrieBlocks.j5
   repeat' first
   | (with_reducible exact ih0 _ _ _ _ _)
   | (with_reducible exact ih1 _ _ _ _ _ _ _ _ _ _ _)
   | (with_reducible exact ih2 _ _ _ _ _ _ _ _ _ _ _)
   | (with_reducible exact ih3 _ _ _ _ _ _ _ _ _ _)
   | (with_reducible exact ih4 _ _ _ _ _ _ _ _ _)
   | (with_reducible exact ih5 _ _ _ _ _ _ _ _ _ _)
   | (with_reducible exact ih6 _ _ _ _ _ _ _)
   | (with_reducible exact endonymlaw4_told.mono _)
   | (with_reducible exact endonymref4_Blocks.mono _ _ _)
   | (with_reducible exact endonymref4_Check.mono _ _ _)
   | (with_reducible exact endonymref4_Ranges.mono _ _ _)
   | (with_reducible exact endonymref4_Same.mono _ _ _)
   | (with_reducible exact trie_Build.mono _ _ _)
   | (with_reducible exact trie_Trie_Ranges.mono _ _)
   | (with_reducible exact LeO.refl _)
   | (with_reducible exact LeO.none _)
   | (with_reducible refine LeO.ite ?_ ?_)
   | (with_reducible refine LeO.bind ?_ (fun _ => ?_))
   | exact ih0 _ _ _ _ _
   | exact ih1 _ _ _ _ _ _ _ _ _ _ _
   | exact ih2 _ _ _ _ _ _ _ _ _ _ _
   | exact ih3 _ _ _ _ _ _ _ _ _ _
   | exact ih4 _ _ _ _ _ _ _ _ _
   | exact ih5 _ _ _ _ _ _ _ _ _ _
   | exact ih6 _ _ _ _ _ _ _
   | exact endonymlaw4_told.mono _
   | exact endonymref4_Blocks.mono _ _ _
   | exact endonymref4_Check.mono _ _ _
   | exact endonymref4_Ranges.mono _ _ _
   | exact endonymref4_Same.mono _ _ _
   | exact trie_Build.mono _ _ _
   | exact trie_Trie_Ranges.mono _ _
   | exact LeO.none _
   | refine LeO.ite ?_ ?_
   | refine LeO.bind ?_ (fun _ => ?_)
  ·intro y0 y1 y2 y3 y4 y5 y6
   unfold endonymlaw4_TrieBlocks.j6
   repeat' first
   | (with_reducible exact ih0 _ _ _ _ _)
   | (with_reducible exact ih1 _ _ _ _ _ _ _ _ _ _ _)
   | (with_reducible exact ih2 _ _ _ _ _ _ _ _ _ _ _)
   | (with_reducible exact ih3 _ _ _ _ _ _ _ _ _ _)
   | (with_reducible exact ih4 _ _ _ _ _ _ _ _ _)
   | (with_reducible exact ih5 _ _ _ _ _ _ _ _ _ _)
   | (with_reducible exact ih6 _ _ _ _ _ _ _)
   | (with_reducible exact endonymlaw4_told.mono _)
   | (with_reducible exact endonymref4_Blocks.mono _ _ _)
   | (with_reducible exact endonymref4_Check.mono _ _ _)
   | (with_reducible exact endonymref4_Ranges.mono _ _ _)
   | (with_reducible exact endonymref4_Same.mono _ _ _)
   | (with_reducible exact trie_Build.mono _ _ _)
   | (with_reducible exact trie_Trie_Ranges.mono _ _)
   | (with_reducible exact LeO.refl _)
   | (with_reducible exact LeO.none _)
   | (with_reducible refine LeO.ite ?_ ?_)
   | (with_reducible refine LeO.bind ?_ (fun _ => ?_))
   | exact ih0 _ _ _ _ _
   | exact ih1 _ _ _ _ _ _ _ _ _ _ _
   | exact ih2 _ _ _ _ _ _ _ _ _ _ _
   | exact ih3 _ _ _ _ _ _ _ _ _ _
   | exact ih4 _ _ _ _ _ _ _ _ _
   | exact ih5 _ _ _ _ _ _ _ _ _ _
   | exact ih6 _ _ _ _ _ _ _
   | exact endonymlaw4_told.mono _
   | exact endonymref4_Blocks.mono _ _ _
   | exact endonymref4_Check.mono _ _ _
   | exact endonymref4_Ranges.mono _ _ _
   | exact endonymref4_Same.mono _ _ _
   | exact trie_Build.mono _ _ _
   | exact trie_Trie_Ranges.mono _ _
   | exact LeO.none _
   | refine LeO.ite ?_ ?_
   | refine LeO.bind ?_ (fun _ => ?_)
theorem endonymlaw4_TrieBlocks.mono : ∀ a0 a1 a2 k, LeO (endonymlaw4_TrieBlocks.f k a0 a1 a2) (endonymlaw4_TrieBlocks.f (k + 1) a0 a1 a2) := by
 intro a0 a1 a2 k
 obtain ⟨ih0, ih1, ih2, ih3, ih4, ih5, ih6⟩ := endonymlaw4_TrieBlocks.mono_l k
 unfold endonymlaw4_TrieBlocks.f
 repeat' first
   | (with_reducible exact ih0 _ _ _ _ _)
   | (with_reducible exact ih1 _ _ _ _ _ _ _ _ _ _ _)
   | (with_reducible exact ih2 _ _ _ _ _ _ _ _ _ _ _)
   | (with_reducible exact ih3 _ _ _ _ _ _ _ _ _ _)
   | (with_reducible exact ih4 _ _ _ _ _ _ _ _ _)
   | (with_reducible exact ih5 _ _ _ _ _ _ _ _ _ _)
   | (with_reducible exact ih6 _ _ _ _ _ _ _)
   | (with_reducible exact endonymlaw4_told.mono _)
   | (with_reducible exact endonymref4_Blocks.mono _ _ _)
   | (with_reducible exact endonymref4_Check.mono _ _ _)
   | (with_reducible exact endonymref4_Ranges.mono _ _ _)
   | (with_reducible exact endonymref4_Same.mono _ _ _)
   | (with_reducible exact trie_Build.mono _ _ _)
   | (with_reducible exact trie_Trie_Ranges.mono _ _)
   | (with_reducible exact LeO.refl _)
   | (with_reducible exact LeO.none _)
   | (with_reducible refine LeO.ite ?_ ?_)
   | (with_reducible refine LeO.bind ?_ (fun _ => ?_))
   | exact ih0 _ _ _ _ _
   | exact ih1 _ _ _ _ _ _ _ _ _ _ _
   | exact ih2 _ _ _ _ _ _ _ _ _ _ _
   | exact ih3 _ _ _ _ _ _ _ _ _ _
   | exact ih4 _ _ _ _ _ _ _ _ _
   | exact ih5 _ _ _ _ _ _ _ _ _ _
   | exact ih6 _ _ _ _ _ _ _
   | exact endonymlaw4_told.mono _
   | exact endonymref4_Blocks.mono _ _ _
   | exact endonymref4_Check.mono _ _ _
   | exact endonymref4_Ranges.mono _ _ _
   | exact endonymref4_Same.mono _ _ _
   | exact trie_Build.mono _ _ _
   | exact trie_Trie_Ranges.mono _ _
   | exact LeO.none _
   | refine LeO.ite ?_ ?_
   | refine LeO.bind ?_ (fun _ => ?_)
theorem endonymlaw4_TrieBlocks.j0_no {k : Nat} {y0 : List (S35)} {y1 : Int} {y2 : Int} {y7 : List (S57)} (h : endonymlaw4_TrieBlocks.j0 k y0 y1 y2 y7 true = some true) : False := by
 cases k with
 | zero => simp [endonymlaw4_TrieBlocks.j0] at h
 | succ k => rw [endonymlaw4_TrieBlocks.j0, if_pos rfl] at h; cases h
theorem endonymlaw4_TrieBlocks.j1_no {k : Nat} {y0 : List (S35)} {y1 : Int} {y2 : Int} {y7 : List (S57)} {y12 : List Int} {y13 : List (List Int)} {y14 : List Int} {y15 : List Int} {y16 : List (S35)} {y17 : List (S35)} (h : endonymlaw4_TrieBlocks.j1 k y0 y1 y2 y7 y12 y13 y14 y15 y16 y17 true = some true) : False := by
 cases k with
 | zero => simp [endonymlaw4_TrieBlocks.j1] at h
 | succ k => rw [endonymlaw4_TrieBlocks.j1, if_pos rfl] at h; cases h
theorem endonymlaw4_TrieBlocks.j6_no {k : Nat} {y0 : List (S35)} {y1 : Int} {y7 : List (S57)} {y12 : List Int} {y15 : List Int} {y17 : List (S35)} (h : endonymlaw4_TrieBlocks.j6 k y0 y1 y7 y12 y15 y17 true = some true) : False := by
 cases k with
 | zero => simp [endonymlaw4_TrieBlocks.j6] at h
 | succ k => rw [endonymlaw4_TrieBlocks.j6, if_pos rfl] at h; cases h
def endonymlaw4_TrieBlocks.T16 : Bool × List (List Nat × List Nat) := (true, [([], []), ([], []), ([0, 1], [0, 1]), ([2], [2]), ([], []), ([], []), ([4, 5], [4, 5]), ([6], [6]), ([3, 7], [3, 7])])
def endonymlaw4_TrieBlocks.B16 : List Nat := [0, 0, 3, 7, 0, 0, 48, 112, 255]
theorem endonymlaw4_TrieBlocks.tab16 : rtab .any (opsOf Try.f5 16) = endonymlaw4_TrieBlocks.T16 := by kernel_rfl
theorem endonymlaw4_TrieBlocks.bits16 : waitsOk endonymlaw4_TrieBlocks.T16.2 endonymlaw4_TrieBlocks.B16 = true := by kernel_rfl
def endonymlaw4_TrieBlocks.T32 : Bool × List (List Nat × List Nat) := (true, [([], []), ([0], [0]), ([], []), ([2], [2]), ([1, 3], [1, 3]), ([4], [4]), ([5], [5]), ([6, 5], [5, 6]), ([7, 5], [5, 7]), ([5], [5]), ([9, 5], [5, 9]), ([10, 5], [5, 10]), ([8, 11, 5], [5, 8, 11]), ([5, 12], [5, 12]), ([13, 5], [13]), ([14], [14]), ([15, 14, 14], [14, 15]), ([16, 14], [14, 16]), ([17, 14], [14, 17]), ([14], [14]), ([19, 14], [14, 19]), ([20, 14], [14, 20]), ([18, 21, 14], [14, 18, 21]), ([14, 22], [14, 22]), ([23, 16], [23]), ([24], [24]), ([24], [24]), ([24], [24]), ([26, 27, 24, 24], [24, 26, 27]), ([25, 28, 28, 24], [24, 25, 28]), ([24, 29], [24, 29]), ([30, 29], [30]), ([31], [31]), ([32, 31, 31], [31, 32]), ([31], [31]), ([33, 34, 33, 31], [31, 33, 34]), ([31, 35], [31, 35]), ([36, 35, 0, 1, 2, 3, 4, 5, 6, 7, 8, 9, 10, 11, 12, 13, 14, 15, 16, 17, 18, 19, 20, 21, 22, 23, 24, 25, 26, 27, 28, 29, 30, 31, 32, 33, 34, 35, 36], [36])])
def endonymlaw4_TrieBlocks.B32 : List Nat := [0, 1, 0, 4, 15, 31, 63, 127, 255, 63, 575, 1599, 4095, 8191, 16383, 32767, 65535, 131071, 262143, 32767, 557055, 1605631, 4194303, 8388607, 16777215, 33554431, 33554431, 33554431, 234881023, 536870911, 1073741823, 2147483647, 4294967295, 8589934591, 4294967295, 34359738367, 68719476735, 137438953471]
theorem endonymlaw4_TrieBlocks.tab32 : rtab .any (opsOf Try.f5 32) = endonymlaw4_TrieBlocks.T32 := by kernel_rfl
theorem endonymlaw4_TrieBlocks.bits32 : waitsOk endonymlaw4_TrieBlocks.T32.2 endonymlaw4_TrieBlocks.B32 = true := by kernel_rfl
set_option maxHeartbeats 8000000 in
set_option maxRecDepth 100000 in
theorem endonymlaw4_TrieBlocks.calls (k : Nat) (A0 : Option Addr) (c0 : Nat) (l0 : List (S35)) (a1 : Int) (a2 : Int) (w : World) (hr0 : Kd.C k35 w A0 l0.length l0) (hc0 : l0.length ≤ c0) (h : endonymlaw4_TrieBlocks.f k l0 a1 a2 = some true) :
  Calls Try.prog 5 #[.slice A0 l0.length c0, .int .i64 a1, .int .i64 a2] w fun e w' => e = .returned (.bool true) ∧ Below w.heap.size w w' := by
 have hu35 := Try.underlying35
 have HR0 := Aside0.mk hr0
 have HC0 := Aside0.mk hc0
 clear hr0 hc0
 have HB := Aside0.mk (Below.refl w.heap.size w)
 have H : ((endonymlaw4_few.f l0).bind fun bt287 => ((trie_Build.f k bt287.2 a1).bind fun bt293 => ((endonymref4_Check.f k bt287.2 a1).bind fun bt298 => (if bt298.2 = 0 then ((endonymlaw4_told.f k).bind fun t301 => (if t301 = true then (endonymlaw4_TrieBlocks.j0 k bt287.2 a1 a2 bt293.1 (bt293.1.isEmpty)) else (endonymlaw4_TrieBlocks.j0 k bt287.2 a1 a2 bt293.1 true))) else ((endonymlaw4_told.f k).bind fun t300 => (if t300 = true then (some (bt293.2.2 == bt298.2)) else (some false))))))) = some true := h
 clear h
 replace H := Option.bind_eq_some_iff.mp H
 obtain ⟨⟨t287, t288⟩, A40, H⟩ := H
 replace H : ((trie_Build.f k t288 a1).bind fun bt293 => ((endonymref4_Check.f k t288 a1).bind fun bt298 => (if bt298.2 = 0 then ((endonymlaw4_told.f k).bind fun t301 => (if t301 = true then (endonymlaw4_TrieBlocks.j0 k t288 a1 a2 bt293.1 (bt293.1.isEmpty)) else (endonymlaw4_TrieBlocks.j0 k t288 a1 a2 bt293.1 true))) else ((endonymlaw4_told.f k).bind fun t300 => (if t300 = true then (some (bt293.2.2 == bt298.2)) else (some false)))))) = some true := H
 have A4 := Aside0.mk A40
 clear A40
 replace H := Option.bind_eq_some_iff.mp H
 obtain ⟨⟨t293, t294, t295⟩, A50, H⟩ := H
 replace H : ((endonymref4_Check.f k t288 a1).bind fun bt298 => (if bt298.2 = 0 then ((endonymlaw4_told.f k).bind fun t301 => (if t301 = true then (endonymlaw4_TrieBlocks.j0 k t288 a1 a2 t293 (t293.isEmpty)) else (endonymlaw4_TrieBlocks.j0 k t288 a1 a2 t293 true))) else ((endonymlaw4_told.f k).bind fun t300 => (if t300 = true then (some (t295 == bt298.2)) else (some false))))) = some true := H
 have A5 := Aside0.mk A50
 clear A50
 replace H := Option.bind_eq_some_iff.mp H
 obtain ⟨⟨t298, t299⟩, A60, H⟩ := H
 replace H : (if t299 = 0 then ((endonymlaw4_told.f k).bind fun t301 => (if t301 = true then (endonymlaw4_TrieBlocks.j0 k t288 a1 a2 t293 (t293.isEmpty)) else (endonymlaw4_TrieBlocks.j0 k t288 a1 a2 t293 true))) else ((endonymlaw4_told.f k).bind fun t300 => (if t300 = true then (some (t295 == t299)) else (some false)))) = some true := H
 have A6 := Aside0.mk A60
 clear A60
 by_cases c7 : t299 = 0
 ·rw [if_pos c7] at H
  have c7b0 : (t299 == 0) = true := beq_iff_eq.mpr c7
  have c7b1 : (t299 != 0) = false := bne_eq_false_iff_eq.mpr c7
  clear c7
  have HC8 := Aside0.mk H
  clear H
  go_enter Try.func5, Try.ntmps5
  go_upto_region 6 with (first | ((with_reducible refine gate_callee (f := 8) rfl ?_); refine goesL_ (some 27) rfl rfl Try.func8 (by kernel_rfl) rfl #[.slice A0 l0.length c0] rfl (by (try simp only [List.map_toArray, List.map_cons, List.map_nil]); first | done | rfl | (simp only [List.length_drop, List.length_take]; rfl)) ?_; (with_reducible refine (endonymlaw4_few.calls _ _ l0 t287 t288 _ ?side1 ?side2 A4.out).mono ?_); (case side1 => repeat (first | exact HR0.out | (with_reducible refine Kd.C_alloc ?_ _) | (with_reducible refine Kd.C_drewN ?_ _) | (with_reducible refine Kd.C_drew ?_))); (case side2 => exact HC0.out); rintro e w9 ⟨v289, v291, rfl, ho0, ho1, hb⟩; refine ⟨_, rfl, ?_⟩; have n0_ := Aside0.mk (Kd.R_lower ho0 (below_size (by repeat (first | (with_reducible first | exact HB.out | apply below_alloc | apply pw_below_drewN | apply below_drew1) | exact HB.out)))); have n1_ := Aside0.mk (Kd.R_lower ho1 (below_size (by repeat (first | (with_reducible first | exact HB.out | apply below_alloc | apply pw_below_drewN | apply below_drew1) | exact HB.out)))); have n2_ := Aside0.mk (below_step (by repeat (first | (with_reducible first | exact HB.out | apply below_alloc | apply pw_below_drewN | apply below_drew1) | exact HB.out)) hb); clear HB; have HO290 := n0_; have HO292 := n1_; have HB := n2_; clear n0_ n1_ n2_; (try clear hb); (try clear hb2); (try clear hk); (try clear hi); (try clear ho0); (try clear ho1); obtain ⟨Ao10, co10, eo10⟩ := Kd.R_slice HO292.out; subst eo10) | ((with_reducible refine gate_callee (f := 9) rfl ?_); refine goesL_ (some 33) rfl rfl Try.func9 (by kernel_rfl) rfl #[.slice Ao10 t288.length co10, .int .i64 a1] rfl (by (try simp only [List.map_toArray, List.map_cons, List.map_nil]); first | done | rfl | (simp only [List.length_drop, List.length_take]; rfl)) ?_; (with_reducible refine (trie_Build.calls k _ _ t288 a1 t293 t294 t295 _ ?side1 ?side2 A5.out).mono ?_); (case side1 => repeat (first | exact (Kd.R_reads' HO292.out).2.2 | (with_reducible refine Kd.C_alloc ?_ _) | (with_reducible refine Kd.C_drewN ?_ _) | (with_reducible refine Kd.C_drew ?_))); (case side2 => exact (Kd.R_reads' HO292.out).2.1); rintro e w11 ⟨v296, rfl, ho0, hb⟩; refine ⟨_, rfl, ?_⟩; have n0_ := Aside0.mk (Kd.R_below (by (with_reducible repeat (first | apply Kd.R_alloc | apply Kd.R_drewN | apply Kd.R_drew)); first | exact HO290.out | exact Kd.R_mono HO290.out (fun _ hk => (by first | exact hk | exact fun e_ => hk (e_.trans (own_len _ _ _ _ _))))) hb); have n1_ := Aside0.mk (Kd.R_below (by (with_reducible repeat (first | apply Kd.R_alloc | apply Kd.R_drewN | apply Kd.R_drew)); first | exact HO292.out | exact Kd.R_mono HO292.out (fun _ hk => (by first | exact hk | exact fun e_ => hk (e_.trans (own_len _ _ _ _ _))))) hb); have n2_ := Aside0.mk (Kd.P_lower ho0 (below_size (by repeat (first | (with_reducible first | exact HB.out | apply below_alloc | apply pw_below_drewN | apply below_drew1) | exact HB.out)))); have n3_ := Aside0.mk (below_step (by repeat (first | (with_reducible first | exact HB.out | apply below_alloc | apply pw_below_drewN | apply below_drew1) | exact HB.out)) hb); clear HO290; clear HO292; clear HB; have HO290 := n0_; have HO292 := n1_; have HO297 := n2_; have HB := n3_; clear n0_ n1_ n2_ n3_; (try clear hb); (try clear hb2); (try clear hk); (try clear hi); (try clear ho0)) | ((with_reducible refine gate_callee (f := 10) rfl ?_); refine goesL_ (some 40) rfl rfl Try.func10 (by kernel_rfl) rfl #[.slice Ao10 t288.length co10, .int .i64 a1] rfl (by (try simp only [List.map_toArray, List.map_cons, List.map_nil]); first | done | rfl | (simp only [List.length_drop, List.length_take]; rfl)) ?_; (with_reducible refine (endonymref4_Check.calls k _ _ t288 a1 t298 t299 _ ?side1 ?side2 A6.out).mono ?_); (case side1 => repeat (first | exact (Kd.R_reads' HO292.out).2.2 | (with_reducible refine Kd.C_alloc ?_ _) | (with_reducible refine Kd.C_drewN ?_ _) | (with_reducible refine Kd.C_drew ?_))); (case side2 => exact (Kd.R_reads' HO292.out).2.1); rintro e w12 ⟨rfl, hb⟩; refine ⟨_, rfl, ?_⟩; have n0_ := Aside0.mk (Kd.R_below (by (with_reducible repeat (first | apply Kd.R_alloc | apply Kd.R_drewN | apply Kd.R_drew)); first | exact HO290.out | exact Kd.R_mono HO290.out (fun _ hk => (by first | exact hk | exact fun e_ => hk (e_.trans (own_len _ _ _ _ _))))) hb); have n1_ := Aside0.mk (Kd.R_below (by (with_reducible repeat (first | apply Kd.R_alloc | apply Kd.R_drewN | apply Kd.R_drew)); first | exact HO292.out | exact Kd.R_mono HO292.out (fun _ hk => (by first | exact hk | exact fun e_ => hk (e_.trans (own_len _ _ _ _ _))))) hb); have n2_ := Aside0.mk (Kd.P_below (by (with_reducible repeat (first | apply Kd.P_alloc | apply Kd.P_drewN | apply Kd.P_drew)); exact HO297.out) hb); have n3_ := Aside0.mk (below_step (by repeat (first | (with_reducible first | exact HB.out | apply below_alloc | apply pw_below_drewN | apply below_drew1) | exact HB.out)) hb); clear HO290; clear HO292; clear HO297; clear HB; have HO290 := n0_; have HO292 := n1_; have HO297 := n2_; have HB := n3_; clear n0_ n1_ n2_ n3_; (try clear hb); (try clear hb2); (try clear hk); (try clear hi)))
  (try simp only [Act.put, List.setIfInBounds_toArray, List.set_cons_zero, List.set_cons_succ])
  go_cut [56] (fun v56 wc => ∃ (kq : Nat) (x56_7 : Bool), v56 = .bool x56_7 ∧ Aside0 (endonymlaw4_TrieBlocks.j0 kq t288 a1 a2 t293 x56_7 = some true) ∧ Aside0 (kq ≤ k) ∧ Aside0 (Kd.R k35 35 wc w.heap.size (fun _ => True) (.slice Ao10 t288.length co10) t288) ∧ Aside0 (Kd.P k57 57 wc w.heap.size (fun _ => True) v296 t293) ∧ Aside0 (Below w.heap.size w wc))
  case first =>
   have H := HC8.out
   clear HC8
   replace H := Option.bind_eq_some_iff.mp H
   obtain ⟨t301, A130, H⟩ := H
   replace H : (if t301 = true then (endonymlaw4_TrieBlocks.j0 k t288 a1 a2 t293 (t293.isEmpty)) else (endonymlaw4_TrieBlocks.j0 k t288 a1 a2 t293 true)) = some true := H
   have A13 := Aside0.mk A130
   clear A130
   by_cases c14 : t301 = true
   ·subst c14
    have H1 : (endonymlaw4_TrieBlocks.j0 k t288 a1 a2 t293 (t293.isEmpty)) = some true := by rw [if_pos rfl] at H; exact H
    clear H; have H := H1; clear H1
    have H' := Aside0.mk H
    clear H
    go_wp2_with (first | ((with_reducible refine gate_callee (f := 11) rfl ?_); refine goesL_ (some 51) rfl rfl Try.func11 (by kernel_rfl) rfl #[] rfl (by (try simp only [List.map_toArray, List.map_cons, List.map_nil]); first | done | rfl | (simp only [List.length_drop, List.length_take]; rfl)) ?_; (with_reducible refine (endonymlaw4_told.calls k  true _ A13.out).mono ?_); rintro e w15 ⟨rfl, hb⟩; refine ⟨_, rfl, ?_⟩; have n0_ := Aside0.mk (Kd.R_below (by (with_reducible repeat (first | apply Kd.R_alloc | apply Kd.R_drewN | apply Kd.R_drew)); first | exact HO290.out | exact Kd.R_mono HO290.out (fun _ hk => (by first | exact hk | exact fun e_ => hk (e_.trans (own_len _ _ _ _ _))))) hb); have n1_ := Aside0.mk (Kd.R_below (by (with_reducible repeat (first | apply Kd.R_alloc | apply Kd.R_drewN | apply Kd.R_drew)); first | exact HO292.out | exact Kd.R_mono HO292.out (fun _ hk => (by first | exact hk | exact fun e_ => hk (e_.trans (own_len _ _ _ _ _))))) hb); have n2_ := Aside0.mk (Kd.P_below (by (with_reducible repeat (first | apply Kd.P_alloc | apply Kd.P_drewN | apply Kd.P_drew)); exact HO297.out) hb); have n3_ := Aside0.mk (below_step (by repeat (first | (with_reducible first | exact HB.out | apply below_alloc | apply pw_below_drewN | apply below_drew1) | exact HB.out)) hb); clear HO290; clear HO292; clear HO297; clear HB; have HO290 := n0_; have HO292 := n1_; have HO297 := n2_; have HB := n3_; clear n0_ n1_ n2_ n3_; (try clear hb); (try clear hb2); (try clear hk); (try clear hi); obtain ⟨Ao16, co16, eo16⟩ := Kd.P_slice HO297.out; subst eo16; have hz17 := Kd.PC_isNone ((Kd.P_reads' HO297.out).2.2)))
    go_meet
    case rel => exact ⟨_, ((t293.isEmpty)), (by first | rfl | (simp; done) | (simp [*]; done)), H', ⟨by first | omega | exact Nat.le_refl _⟩, ⟨by (with_reducible repeat (first | apply Kd.R_alloc | apply Kd.R_drewN | apply Kd.R_drew)); exact Kd.R_mono HO292.out (fun _ hk => trivial)⟩, ⟨by (with_reducible repeat (first | apply Kd.P_alloc | apply Kd.P_drewN | apply Kd.P_drew)); exact HO297.out⟩, ⟨by repeat (first | (with_reducible first | exact HB.out | apply below_alloc | apply pw_below_drewN | apply below_drew1) | exact HB.out)⟩⟩
   ·replace c14 := Bool.eq_false_iff.mpr c14
    subst c14
    have H1 : (endonymlaw4_TrieBlocks.j0 k t288 a1 a2 t293 true) = some true := by rw [if_neg (show ¬ (false = true) by decide)] at H; exact H
    clear H; have H := H1; clear H1
    exact (endonymlaw4_TrieBlocks.j0_no H).elim
  case rest =>
   clear HC8
   (try clear c1); (try clear p2); (try clear c5); (try clear c7); (try clear c7b0); (try clear c7b1); (try clear c8); (try clear c9); (try clear c10); (try clear c11); (try clear c14)
   obtain ⟨kq, x56_7, rfl, HA, HJ7, HO_0, HO_7, HB⟩ := hcut
   cases kq with
   | zero => exact absurd HA.out (by simp [endonymlaw4_TrieBlocks.j0])
   | succ kj7 =>
    have H := HA.out
    clear HA
    simp only [endonymlaw4_TrieBlocks.j0] at H
    by_cases c18 : x56_7 = true
    ·subst c18
     have H1 : (some false) = some true := by rw [if_pos rfl] at H; exact H
     clear H; have H := H1; clear H1
     exact absurd H (by simp)
    ·replace c18 := Bool.eq_false_iff.mpr c18
     subst c18
     have H1 : ((endonymref4_Blocks.f kj7 t288 a1).bind fun bt302 => ((trie_Trie_Index.f t293).bind fun t308 => ((trie_Trie_Index.f t293).bind fun t311 => ((trie_Trie_Ranges.f kj7 t293).bind fun t314 => ((trie_Trie_Ranges.f kj7 t293).bind fun t317 => (if (t308.length : Int) = (bt302.1.length : Int) then ((trie_Trie_Blocks.f t293).bind fun t320 => (if t320 = (bt302.2.length : Int) then ((endonymref4_Ranges.f kj7 t288 a1).bind fun t321 => ((endonymref4_Same.f kj7 t314 t321).bind fun t324 => (endonymlaw4_TrieBlocks.j1 kj7 t288 a1 a2 t293 bt302.1 bt302.2 t308 t311 t314 t317 (!t324)))) else (endonymlaw4_TrieBlocks.j1 kj7 t288 a1 a2 t293 bt302.1 bt302.2 t308 t311 t314 t317 true))) else (endonymlaw4_TrieBlocks.j1 kj7 t288 a1 a2 t293 bt302.1 bt302.2 t308 t311 t314 t317 true))))))) = some true := by rw [if_neg (show ¬ (false = true) by decide)] at H; exact H
     clear H; have H := H1; clear H1
     replace H := Option.bind_eq_some_iff.mp H
     obtain ⟨⟨t302, t303⟩, A190, H⟩ := H
     replace H : ((trie_Trie_Index.f t293).bind fun t308 => ((trie_Trie_Index.f t293).bind fun t311 => ((trie_Trie_Ranges.f kj7 t293).bind fun t314 => ((trie_Trie_Ranges.f kj7 t293).bind fun t317 => (if (t308.length : Int) = (t302.length : Int) then ((trie_Trie_Blocks.f t293).bind fun t320 => (if t320 = (t303.length : Int) then ((endonymref4_Ranges.f kj7 t288 a1).bind fun t321 => ((endonymref4_Same.f kj7 t314 t321).bind fun t324 => (endonymlaw4_TrieBlocks.j1 kj7 t288 a1 a2 t293 t302 t303 t308 t311 t314 t317 (!t324)))) else (endonymlaw4_TrieBlocks.j1 kj7 t288 a1 a2 t293 t302 t303 t308 t311 t314 t317 true))) else (endonymlaw4_TrieBlocks.j1 kj7 t288 a1 a2 t293 t302 t303 t308 t311 t314 t317 true)))))) = some true := H
     have A19 := Aside0.mk A190
     clear A190
     replace H := Option.bind_eq_some_iff.mp H
     obtain ⟨t308, A200, H⟩ := H
     replace H : ((trie_Trie_Index.f t293).bind fun t311 => ((trie_Trie_Ranges.f kj7 t293).bind fun t314 => ((trie_Trie_Ranges.f kj7 t293).bind fun t317 => (if (t308.length : Int) = (t302.length : Int) then ((trie_Trie_Blocks.f t293).bind fun t320 => (if t320 = (t303.length : Int) then ((endonymref4_Ranges.f kj7 t288 a1).bind fun t321 => ((endonymref4_Same.f kj7 t314 t321).bind fun t324 => (endonymlaw4_TrieBlocks.j1 kj7 t288 a1 a2 t293 t302 t303 t308 t311 t314 t317 (!t324)))) else (endonymlaw4_TrieBlocks.j1 kj7 t288 a1 a2 t293 t302 t303 t308 t311 t314 t317 true))) else (endonymlaw4_TrieBlocks.j1 kj7 t288 a1 a2 t293 t302 t303 t308 t311 t314 t317 true))))) = some true := H
     have A20 := Aside0.mk A200
     clear A200
     replace H := Option.bind_eq_some_iff.mp H
     obtain ⟨t311, A210, H⟩ := H
     replace H : ((trie_Trie_Ranges.f kj7 t293).bind fun t314 => ((trie_Trie_Ranges.f kj7 t293).bind fun t317 => (if (t308.length : Int) = (t302.length : Int) then ((trie_Trie_Blocks.f t293).bind fun t320 => (if t320 = (t303.length : Int) then ((endonymref4_Ranges.f kj7 t288 a1).bind fun t321 => ((endonymref4_Same.f kj7 t314 t321).bind fun t324 => (endonymlaw4_TrieBlocks.j1 kj7 t288 a1 a2 t293 t302 t303 t308 t311 t314 t317 (!t324)))) else (endonymlaw4_TrieBlocks.j1 kj7 t288 a1 a2 t293 t302 t303 t308 t311 t314 t317 true))) else (endonymlaw4_TrieBlocks.j1 kj7 t288 a1 a2 t293 t302 t303 t308 t311 t314 t317 true)))) = some true := H
     have A21 := Aside0.mk A210
     clear A210
     replace H := Option.bind_eq_some_iff.mp H
     obtain ⟨t314, A220, H⟩ := H
     replace H : ((trie_Trie_Ranges.f kj7 t293).bind fun t317 => (if (t308.length : Int) = (t302.length : Int) then ((trie_Trie_Blocks.f t293).bind fun t320 => (if t320 = (t303.length : Int) then ((endonymref4_Ranges.f kj7 t288 a1).bind fun t321 => ((endonymref4_Same.f kj7 t314 t321).bind fun t324 => (endonymlaw4_TrieBlocks.j1 kj7 t288 a1 a2 t293 t302 t303 t308 t311 t314 t317 (!t324)))) else (endonymlaw4_TrieBlocks.j1 kj7 t288 a1 a2 t293 t302 t303 t308 t311 t314 t317 true))) else (endonymlaw4_TrieBlocks.j1 kj7 t288 a1 a2 t293 t302 t303 t308 t311 t314 t317 true))) = some true := H
     have A22 := Aside0.mk A220
     clear A220
     replace H := Option.bind_eq_some_iff.mp H
     obtain ⟨t317, A230, H⟩ := H
     replace H : (if (t308.length : Int) = (t302.length : Int) then ((trie_Trie_Blocks.f t293).bind fun t320 => (if t320 = (t303.length : Int) then ((endonymref4_Ranges.f kj7 t288 a1).bind fun t321 => ((endonymref4_Same.f kj7 t314 t321).bind fun t324 => (endonymlaw4_TrieBlocks.j1 kj7 t288 a1 a2 t293 t302 t303 t308 t311 t314 t317 (!t324)))) else (endonymlaw4_TrieBlocks.j1 kj7 t288 a1 a2 t293 t302 t303 t308 t311 t314 t317 true))) else (endonymlaw4_TrieBlocks.j1 kj7 t288 a1 a2 t293 t302 t303 t308 t311 t314 t317 true)) = some true := H
     have A23 := Aside0.mk A230
     clear A230
     have HC24 := Aside0.mk H
     clear H
     go_upto_region 11 with (first | ((with_reducible refine gate_callee (f := 18) rfl ?_); refine goesL_ (some 60) rfl rfl Try.func18 (by kernel_rfl) rfl #[.slice Ao10 t288.length co10, .int .i64 a1] rfl (by (try simp only [List.map_toArray, List.map_cons, List.map_nil]); first | done | rfl | (simp only [List.length_drop, List.length_take]; rfl)) ?_; (with_reducible refine (endonymref4_Blocks.calls kj7 _ _ t288 a1 t302 t303 _ ?side1 ?side2 A19.out).mono ?_); (case side1 => repeat (first | exact (Kd.R_reads' HO_0.out).2.2 | (with_reducible refine Kd.C_alloc ?_ _) | (with_reducible refine Kd.C_drewN ?_ _) | (with_reducible refine Kd.C_drew ?_))); (case side2 => exact (Kd.R_reads' HO_0.out).2.1); rintro e w25 ⟨v304, v306, rfl, ho0, ho1, hb⟩; refine ⟨_, rfl, ?_⟩; have n0_ := Aside0.mk (Kd.R_below (by (with_reducible repeat (first | apply Kd.R_alloc | apply Kd.R_drewN | apply Kd.R_drew)); exact HO_0.out) hb); have n1_ := Aside0.mk (Kd.P_mono (Kd.P_told (Kd.P_told (Kd.P_old (by (with_reducible repeat (first | apply Kd.P_alloc | apply Kd.P_drewN | apply Kd.P_drew)); exact HO_7.out) hb) (Kd.R_base ho0)) (Kd.R_base ho1)) (fun _ h_ => h_.1)); have n2_ := Aside0.mk (Kd.R_lower ho0 (below_size (by repeat (first | (with_reducible first | exact HB.out | apply below_alloc | apply pw_below_drewN | apply below_drew1) | exact HB.out)))); have n3_ := Aside0.mk (Kd.R_lower ho1 (below_size (by repeat (first | (with_reducible first | exact HB.out | apply below_alloc | apply pw_below_drewN | apply below_drew1) | exact HB.out)))); have n4_ := Aside0.mk (below_step (by repeat (first | (with_reducible first | exact HB.out | apply below_alloc | apply pw_below_drewN | apply below_drew1) | exact HB.out)) hb); clear HO_0; clear HO_7; clear HB; have HO_0 := n0_; have HO_7 := n1_; have HO305 := n2_; have HO307 := n3_; have HB := n4_; clear n0_ n1_ n2_ n3_ n4_; (try clear hb); (try clear hb2); (try clear hk); (try clear hi); (try clear ho0); (try clear ho1); obtain ⟨Ao26, co26, eo26⟩ := Kd.P_slice HO_7.out; subst eo26) | ((with_reducible refine gate_callee (f := 19) rfl ?_); refine goesL_ (some 64) rfl rfl Try.func19 (by kernel_rfl) rfl #[.pointer Ao26] rfl (by (try simp only [List.map_toArray, List.map_cons, List.map_nil]); first | done | rfl | (simp only [List.length_drop, List.length_take]; rfl)) ?_; (with_reducible refine (trie_Trie_Index.calls _ t293 t308 _ ?side1 A20.out).mono ?_); (case side1 => repeat (first | exact (Kd.P_reads' HO_7.out).2.2 | (with_reducible refine Kd.PC_alloc ?_ _) | (with_reducible refine Kd.PC_drewN ?_ _) | (with_reducible refine Kd.PC_drew ?_))); rintro e w27 ⟨v309, rfl, ho0, hb⟩; refine ⟨_, rfl, ?_⟩; have n0_ := Aside0.mk (Kd.R_below (by (with_reducible repeat (first | apply Kd.R_alloc | apply Kd.R_drewN | apply Kd.R_drew)); exact HO_0.out) hb); have n1_ := Aside0.mk (Kd.P_elder' (by (with_reducible repeat (first | apply Kd.P_alloc | apply Kd.P_drewN | apply Kd.P_drew)); first | exact HO_7.out | exact Kd.P_mono HO_7.out (fun _ hk => ⟨⟨trivial, (by first | exact hk.1.2 | exact fun e_ => hk.1.2 (e_.trans (own_len _ _ _ _ _)))⟩, (by first | exact hk.2 | exact fun e_ => hk.2 (e_.trans (own_len _ _ _ _ _)))⟩)) (Kd.R_base ho0) hb); have n2_ := Aside0.mk (Kd.R_elder' (by (with_reducible repeat (first | apply Kd.R_alloc | apply Kd.R_drewN | apply Kd.R_drew)); exact HO305.out) (Kd.R_base ho0) hb); have n3_ := Aside0.mk (Kd.R_below (by (with_reducible repeat (first | apply Kd.R_alloc | apply Kd.R_drewN | apply Kd.R_drew)); exact HO307.out) hb); have n4_ := Aside0.mk (Kd.R_lower (Kd.R_new' ho0 (Kd.R_lt (by (with_reducible repeat (first | apply Kd.R_alloc | apply Kd.R_drewN | apply Kd.R_drew)); exact HO305.out))) (below_size (by repeat (first | (with_reducible first | exact HB.out | apply below_alloc | apply pw_below_drewN | apply below_drew1) | exact HB.out)))); have n5_ := Aside0.mk (below_step (by repeat (first | (with_reducible first | exact HB.out | apply below_alloc | apply pw_below_drewN | apply below_drew1) | exact HB.out)) hb); clear HO_0; clear HO_7; clear HO305; clear HO307; clear HB; have HO_0 := n0_; have HO_7 := n1_; have HO305 := n2_; have HO307 := n3_; have HO310 := n4_; have HB := n5_; clear n0_ n1_ n2_ n3_ n4_ n5_; (try clear hb); (try clear hb2); (try clear hk); (try clear hi); (try clear ho0)) | ((with_reducible refine gate_callee (f := 19) rfl ?_); refine goesL_ (some 66) rfl rfl Try.func19 (by kernel_rfl) rfl #[.pointer Ao26] rfl (by (try simp only [List.map_toArray, List.map_cons, List.map_nil]); first | done | rfl | (simp only [List.length_drop, List.length_take]; rfl)) ?_; (with_reducible refine (trie_Trie_Index.calls _ t293 t311 _ ?side1 A21.out).mono ?_); (case side1 => repeat (first | exact (Kd.P_reads' HO_7.out).2.2 | (with_reducible refine Kd.PC_alloc ?_ _) | (with_reducible refine Kd.PC_drewN ?_ _) | (with_reducible refine Kd.PC_drew ?_))); rintro e w28 ⟨v312, rfl, ho0, hb⟩; refine ⟨_, rfl, ?_⟩; have n0_ := Aside0.mk (Kd.R_below (by (with_reducible repeat (first | apply Kd.R_alloc | apply Kd.R_drewN | apply Kd.R_drew)); exact HO_0.out) hb); have n1_ := Aside0.mk (Kd.P_elder' (by (with_reducible repeat (first | apply Kd.P_alloc | apply Kd.P_drewN | apply Kd.P_drew)); first | exact HO_7.out | exact Kd.P_mono HO_7.out (fun _ hk => ⟨⟨⟨trivial, (by first | exact hk.1.1.2 | exact fun e_ => hk.1.1.2 (e_.trans (own_len _ _ _ _ _)))⟩, (by first | exact hk.1.2 | exact fun e_ => hk.1.2 (e_.trans (own_len _ _ _ _ _)))⟩, (by first | exact hk.2 | exact fun e_ => hk.2 (e_.trans (own_len _ _ _ _ _)))⟩)) (Kd.R_base ho0) hb); have n2_ := Aside0.mk (Kd.R_elder' (by (with_reducible repeat (first | apply Kd.R_alloc | apply Kd.R_drewN | apply Kd.R_drew)); first | exact HO305.out | exact Kd.R_mono HO305.out (fun _ hk => ⟨trivial, (by first | exact hk.2 | exact fun e_ => hk.2 (e_.trans (own_len _ _ _ _ _)))⟩)) (Kd.R_base ho0) hb); have n3_ := Aside0.mk (Kd.R_below (by (with_reducible repeat (first | apply Kd.R_alloc | apply Kd.R_drewN | apply Kd.R_drew)); exact HO307.out) hb); have n4_ := Aside0.mk (Kd.R_elder' (by (with_reducible repeat (first | apply Kd.R_alloc | apply Kd.R_drewN | apply Kd.R_drew)); first | exact HO310.out | exact Kd.R_mono HO310.out (fun _ hk => ⟨trivial, (by first | exact hk.2 | exact fun e_ => hk.2 (e_.trans (own_len _ _ _ _ _)))⟩)) (Kd.R_base ho0) hb); have n5_ := Aside0.mk (Kd.R_lower (Kd.R_new' (Kd.R_new' ho0 (Kd.R_lt (by (with_reducible repeat (first | apply Kd.R_alloc | apply Kd.R_drewN | apply Kd.R_drew)); first | exact HO305.out | exact Kd.R_mono HO305.out (fun _ hk => ⟨trivial, (by first | exact hk.2 | exact fun e_ => hk.2 (e_.trans (own_len _ _ _ _ _)))⟩)))) (Kd.R_lt (by (with_reducible repeat (first | apply Kd.R_alloc | apply Kd.R_drewN | apply Kd.R_drew)); first | exact HO310.out | exact Kd.R_mono HO310.out (fun _ hk => ⟨trivial, (by first | exact hk.2 | exact fun e_ => hk.2 (e_.trans (own_len _ _ _ _ _)))⟩)))) (below_size (by repeat (first | (with_reducible first | exact HB.out | apply below_alloc | apply pw_below_drewN | apply below_drew1) | exact HB.out)))); have n6_ := Aside0.mk (below_step (by repeat (first | (with_reducible first | exact HB.out | apply below_alloc | apply pw_below_drewN | apply below_drew1) | exact HB.out)) hb); clear HO_0; clear HO_7; clear HO305; clear HO307; clear HO310; clear HB; have HO_0 := n0_; have HO_7 := n1_; have HO305 := n2_; have HO307 := n3_; have HO310 := n4_; have HO313 := n5_; have HB := n6_; clear n0_ n1_ n2_ n3_ n4_ n5_ n6_; (try clear hb); (try clear hb2); (try clear hk); (try clear hi); (try clear ho0)) | ((with_reducible refine gate_callee (f := 20) rfl ?_); refine goesL_ (some 68) rfl rfl Try.func20 (by kernel_rfl) rfl #[.pointer Ao26] rfl (by (try simp only [List.map_toArray, List.map_cons, List.map_nil]); first | done | rfl | (simp only [List.length_drop, List.length_take]; rfl)) ?_; (with_reducible refine (trie_Trie_Ranges.calls kj7 _ t293 t314 _ ?side1 A22.out).mono ?_); (case side1 => repeat (first | exact (Kd.P_reads' HO_7.out).2.2 | (with_reducible refine Kd.PC_alloc ?_ _) | (with_reducible refine Kd.PC_drewN ?_ _) | (with_reducible refine Kd.PC_drew ?_))); rintro e w29 ⟨v315, rfl, ho0, hb⟩; refine ⟨_, rfl, ?_⟩; have n0_ := Aside0.mk (Kd.R_elder' (by (with_reducible repeat (first | apply Kd.R_alloc | apply Kd.R_drewN | apply Kd.R_drew)); exact HO_0.out) (Kd.R_base ho0) hb); have n1_ := Aside0.mk (Kd.P_below (by (with_reducible repeat (first | apply Kd.P_alloc | apply Kd.P_drewN | apply Kd.P_drew)); first | exact HO_7.out | exact Kd.P_mono HO_7.out (fun _ hk => ⟨⟨⟨⟨trivial, (by first | exact hk.1.1.1.2 | exact fun e_ => hk.1.1.1.2 (e_.trans (own_len _ _ _ _ _)))⟩, (by first | exact hk.1.1.2 | exact fun e_ => hk.1.1.2 (e_.trans (own_len _ _ _ _ _)))⟩, (by first | exact hk.1.2 | exact fun e_ => hk.1.2 (e_.trans (own_len _ _ _ _ _)))⟩, (by first | exact hk.2 | exact fun e_ => hk.2 (e_.trans (own_len _ _ _ _ _)))⟩)) hb); have n2_ := Aside0.mk (Kd.R_below (by (with_reducible repeat (first | apply Kd.R_alloc | apply Kd.R_drewN | apply Kd.R_drew)); first | exact HO305.out | exact Kd.R_mono HO305.out (fun _ hk => ⟨⟨trivial, (by first | exact hk.1.2 | exact fun e_ => hk.1.2 (e_.trans (own_len _ _ _ _ _)))⟩, (by first | exact hk.2 | exact fun e_ => hk.2 (e_.trans (own_len _ _ _ _ _)))⟩)) hb); have n3_ := Aside0.mk (Kd.R_below (by (with_reducible repeat (first | apply Kd.R_alloc | apply Kd.R_drewN | apply Kd.R_drew)); exact HO307.out) hb); have n4_ := Aside0.mk (Kd.R_below (by (with_reducible repeat (first | apply Kd.R_alloc | apply Kd.R_drewN | apply Kd.R_drew)); first | exact HO310.out | exact Kd.R_mono HO310.out (fun _ hk => ⟨⟨trivial, (by first | exact hk.1.2 | exact fun e_ => hk.1.2 (e_.trans (own_len _ _ _ _ _)))⟩, (by first | exact hk.2 | exact fun e_ => hk.2 (e_.trans (own_len _ _ _ _ _)))⟩)) hb); have n5_ := Aside0.mk (Kd.R_below (by (with_reducible repeat (first | apply Kd.R_alloc | apply Kd.R_drewN | apply Kd.R_drew)); first | exact HO313.out | exact Kd.R_mono HO313.out (fun _ hk => ⟨⟨trivial, (by first | exact hk.1.2 | exact fun e_ => hk.1.2 (e_.trans (own_len _ _ _ _ _)))⟩, (by first | exact hk.2 | exact fun e_ => hk.2 (e_.trans (own_len _ _ _ _ _)))⟩)) hb); have n6_ := Aside0.mk (Kd.R_lower (Kd.R_new' ho0 (Kd.R_lt (by (with_reducible repeat (first | apply Kd.R_alloc | apply Kd.R_drewN | apply Kd.R_drew)); exact HO_0.out))) (below_size (by repeat (first | (with_reducible first | exact HB.out | apply below_alloc | apply pw_below_drewN | apply below_drew1) | exact HB.out)))); have n7_ := Aside0.mk (below_step (by repeat (first | (with_reducible first | exact HB.out | apply below_alloc | apply pw_below_drewN | apply below_drew1) | exact HB.out)) hb); clear HO_0; clear HO_7; clear HO305; clear HO307; clear HO310; clear HO313; clear HB; have HO_0 := n0_; have HO_7 := n1_; have HO305 := n2_; have HO307 := n3_; have HO310 := n4_; have HO313 := n5_; have HO316 := n6_; have HB := n7_; clear n0_ n1_ n2_ n3_ n4_ n5_ n6_ n7_; (try clear hb); (try clear hb2); (try clear hk); (try clear hi); (try clear ho0)) | ((with_reducible refine gate_callee (f := 20) rfl ?_); refine goesL_ (some 70) rfl rfl Try.func20 (by kernel_rfl) rfl #[.pointer Ao26] rfl (by (try simp only [List.map_toArray, List.map_cons, List.map_nil]); first | done | rfl | (simp only [List.length_drop, List.length_take]; rfl)) ?_; (with_reducible refine (trie_Trie_Ranges.calls kj7 _ t293 t317 _ ?side1 A23.out).mono ?_); (case side1 => repeat (first | exact (Kd.P_reads' HO_7.out).2.2 | (with_reducible refine Kd.PC_alloc ?_ _) | (with_reducible refine Kd.PC_drewN ?_ _) | (with_reducible refine Kd.PC_drew ?_))); rintro e w30 ⟨v318, rfl, ho0, hb⟩; refine ⟨_, rfl, ?_⟩; have n0_ := Aside0.mk (Kd.R_elder' (by (with_reducible repeat (first | apply Kd.R_alloc | apply Kd.R_drewN | apply Kd.R_drew)); first | exact HO_0.out | exact Kd.R_mono HO_0.out (fun _ hk => ⟨trivial, (by first | exact hk.2 | exact fun e_ => hk.2 (e_.trans (own_len _ _ _ _ _)))⟩)) (Kd.R_base ho0) hb); have n1_ := Aside0.mk (Kd.P_below (by (with_reducible repeat (first | apply Kd.P_alloc | apply Kd.P_drewN | apply Kd.P_drew)); first | exact HO_7.out | exact Kd.P_mono HO_7.out (fun _ hk => ⟨⟨⟨⟨trivial, (by first | exact hk.1.1.1.2 | exact fun e_ => hk.1.1.1.2 (e_.trans (own_len _ _ _ _ _)))⟩, (by first | exact hk.1.1.2 | exact fun e_ => hk.1.1.2 (e_.trans (own_len _ _ _ _ _)))⟩, (by first | exact hk.1.2 | exact fun e_ => hk.1.2 (e_.trans (own_len _ _ _ _ _)))⟩, (by first | exact hk.2 | exact fun e_ => hk.2 (e_.trans (own_len _ _ _ _ _)))⟩)) hb); have n2_ := Aside0.mk (Kd.R_below (by (with_reducible repeat (first | apply Kd.R_alloc | apply Kd.R_drewN | apply Kd.R_drew)); first | exact HO305.out | exact Kd.R_mono HO305.out (fun _ hk => ⟨⟨trivial, (by first | exact hk.1.2 | exact fun e_ => hk.1.2 (e_.trans (own_len _ _ _ _ _)))⟩, (by first | exact hk.2 | exact fun e_ => hk.2 (e_.trans (own_len _ _ _ _ _)))⟩)) hb); have n3_ := Aside0.mk (Kd.R_below (by (with_reducible repeat (first | apply Kd.R_alloc | apply Kd.R_drewN | apply Kd.R_drew)); exact HO307.out) hb); have n4_ := Aside0.mk (Kd.R_below (by (with_reducible repeat (first | apply Kd.R_alloc | apply Kd.R_drewN | apply Kd.R_drew)); first | exact HO310.out | exact Kd.R_mono HO310.out (fun _ hk => ⟨⟨trivial, (by first | exact hk.1.2 | exact fun e_ => hk.1.2 (e_.trans (own_len _ _ _ _ _)))⟩, (by first | exact hk.2 | exact fun e_ => hk.2 (e_.trans (own_len _ _ _ _ _)))⟩)) hb); have n5_ := Aside0.mk (Kd.R_below (by (with_reducible repeat (first | apply Kd.R_alloc | apply Kd.R_drewN | apply Kd.R_drew)); first | exact HO313.out | exact Kd.R_mono HO313.out (fun _ hk => ⟨⟨trivial, (by first | exact hk.1.2 | exact fun e_ => hk.1.2 (e_.trans (own_len _ _ _ _ _)))⟩, (by first | exact hk.2 | exact fun e_ => hk.2 (e_.trans (own_len _ _ _ _ _)))⟩)) hb); have n6_ := Aside0.mk (Kd.R_elder' (by (with_reducible repeat (first | apply Kd.R_alloc | apply Kd.R_drewN | apply Kd.R_drew)); first | exact HO316.out | exact Kd.R_mono HO316.out (fun _ hk => ⟨trivial, (by first | exact hk.2 | exact fun e_ => hk.2 (e_.trans (own_len _ _ _ _ _)))⟩)) (Kd.R_base ho0) hb); have n7_ := Aside0.mk (Kd.R_lower (Kd.R_new' (Kd.R_new' ho0 (Kd.R_lt (by (with_reducible repeat (first | apply Kd.R_alloc | apply Kd.R_drewN | apply Kd.R_drew)); first | exact HO_0.out | exact Kd.R_mono HO_0.out (fun _ hk => ⟨trivial, (by first | exact hk.2 | exact fun e_ => hk.2 (e_.trans (own_len _ _ _ _ _)))⟩)))) (Kd.R_lt (by (with_reducible repeat (first | apply Kd.R_alloc | apply Kd.R_drewN | apply Kd.R_drew)); first | exact HO316.out | exact Kd.R_mono HO316.out (fun _ hk => ⟨trivial, (by first | exact hk.2 | exact fun e_ => hk.2 (e_.trans (own_len _ _ _ _ _)))⟩)))) (below_size (by repeat (first | (with_reducible first | exact HB.out | apply below_alloc | apply pw_below_drewN | apply below_drew1) | exact HB.out)))); have n8_ := Aside0.mk (below_step (by repeat (first | (with_reducible first | exact HB.out | apply below_alloc | apply pw_below_drewN | apply below_drew1) | exact HB.out)) hb); clear HO_0; clear HO_7; clear HO305; clear HO307; clear HO310; clear HO313; clear HO316; clear HB; have HO_0 := n0_; have HO_7 := n1_; have HO305 := n2_; have HO307 := n3_; have HO310 := n4_; have HO313 := n5_; have HO316 := n6_; have HO319 := n7_; have HB := n8_; clear n0_ n1_ n2_ n3_ n4_ n5_ n6_ n7_ n8_; (try clear hb); (try clear hb2); (try clear hk); (try clear hi); (try clear ho0)))
     (try simp only [Act.put, List.setIfInBounds_toArray, List.set_cons_zero, List.set_cons_succ])
     go_cut [90] (fun v90 wc => ∃ (kq : Nat) (x90_23 : Bool), v90 = .bool x90_23 ∧ Aside0 (endonymlaw4_TrieBlocks.j1 kq t288 a1 a2 t293 t302 t303 t308 t311 t314 t317 x90_23 = some true) ∧ Aside0 (kq ≤ kj7) ∧ Aside0 (Kd.R k35 35 wc w.heap.size (fun k_ => some k_ ≠ (v315 : Value).ownBlock ∧ some k_ ≠ (v318 : Value).ownBlock) (.slice Ao10 t288.length co10) t288) ∧ Aside0 (Kd.P k57 57 wc w.heap.size (fun k_ => some k_ ≠ (v304 : Value).ownBlock ∧ some k_ ≠ (v306 : Value).ownBlock ∧ some k_ ≠ (v309 : Value).ownBlock ∧ some k_ ≠ (v312 : Value).ownBlock) (.pointer Ao26) t293) ∧ Aside0 (Kd.R (Kd.int .u16) 49 wc w.heap.size (fun k_ => some k_ ≠ (v309 : Value).ownBlock ∧ some k_ ≠ (v312 : Value).ownBlock) v304 t302) ∧ Aside0 (Kd.R (Kd.arr 64 (Kd.int .u16) (by decide)) 50 wc w.heap.size (fun _ => True) v306 t303) ∧ Aside0 (Kd.R (Kd.int .u16) 49 wc w.heap.size (fun k_ => some k_ ≠ (v304 : Value).ownBlock ∧ some k_ ≠ (v312 : Value).ownBlock) v309 t308) ∧ Aside0 (Kd.R (Kd.int .u16) 49 wc w.heap.size (fun k_ => some k_ ≠ (v304 : Value).ownBlock ∧ some k_ ≠ (v309 : Value).ownBlock) v312 t311) ∧ Aside0 (Kd.R k35 35 wc w.heap.size (fun k_ => some k_ ≠ ((.slice Ao10 t288.length co10) : Value).ownBlock ∧ some k_ ≠ (v318 : Value).ownBlock) v315 t314) ∧ Aside0 (Kd.R k35 35 wc w.heap.size (fun k_ => some k_ ≠ ((.slice Ao10 t288.length co10) : Value).ownBlock ∧ some k_ ≠ (v315 : Value).ownBlock) v318 t317) ∧ Aside0 (Below w.heap.size w wc))
     case first =>
      have H := HC24.out
      clear HC24
      by_cases c31 : (t308.length : Int) = (t302.length : Int)
      ·rw [if_pos c31] at H
       have c31b0 : ((t308.length : Int) == (t302.length : Int)) = true := beq_iff_eq.mpr c31
       have c31b1 : ((t308.length : Int) != (t302.length : Int)) = false := bne_eq_false_iff_eq.mpr c31
       have c31b2 : (t308.length == t302.length) = true := by first | simpa using c31 | (simp at c31 ⊢; omega)
       clear c31
       (first | rw [c31b0] | (simp only [i64_w, i32_w]; rw [c31b0]) | skip)
       replace H := Option.bind_eq_some_iff.mp H
       obtain ⟨t320, A320, H⟩ := H
       replace H : (if t320 = (t303.length : Int) then ((endonymref4_Ranges.f kj7 t288 a1).bind fun t321 => ((endonymref4_Same.f kj7 t314 t321).bind fun t324 => (endonymlaw4_TrieBlocks.j1 kj7 t288 a1 a2 t293 t302 t303 t308 t311 t314 t317 (!t324)))) else (endonymlaw4_TrieBlocks.j1 kj7 t288 a1 a2 t293 t302 t303 t308 t311 t314 t317 true)) = some true := H
       have A32 := Aside0.mk A320
       clear A320
       by_cases c33 : t320 = (t303.length : Int)
       ·rw [if_pos c33] at H
        have c33b0 : (t320 == (t303.length : Int)) = true := beq_iff_eq.mpr c33
        have c33b1 : (t320 != (t303.length : Int)) = false := bne_eq_false_iff_eq.mpr c33
        clear c33
        replace H := Option.bind_eq_some_iff.mp H
        obtain ⟨t321, A340, H⟩ := H
        replace H : ((endonymref4_Same.f kj7 t314 t321).bind fun t324 => (endonymlaw4_TrieBlocks.j1 kj7 t288 a1 a2 t293 t302 t303 t308 t311 t314 t317 (!t324))) = some true := H
        have A34 := Aside0.mk A340
        clear A340
        replace H := Option.bind_eq_some_iff.mp H
        obtain ⟨t324, A350, H⟩ := H
        replace H : (endonymlaw4_TrieBlocks.j1 kj7 t288 a1 a2 t293 t302 t303 t308 t311 t314 t317 (!t324)) = some true := H
        have A35 := Aside0.mk A350
        clear A350
        have H' := Aside0.mk H
        clear H
        obtain ⟨Ao36, co36, eo36⟩ := Kd.R_slice HO310.out
        subst eo36
        obtain ⟨Ao37, co37, eo37⟩ := Kd.R_slice HO305.out
        subst eo37
        go_wp2_with (first | (go_at_call 21; (with_reducible refine (trie_Trie_Blocks.calls _ t293 t320 _ ?side1 A32.out).mono ?_); (case side1 => repeat (first | exact (Kd.P_reads' HO_7.out).2.2 | (with_reducible refine Kd.PC_alloc ?_ _) | (with_reducible refine Kd.PC_drewN ?_ _) | (with_reducible refine Kd.PC_drew ?_))); rintro e w' ⟨rfl, ⟨nd, rfl⟩⟩; obtain ⟨Ao38, co38, eo38⟩ := Kd.R_slice HO307.out; subst eo38) | (go_at_call 16; (with_reducible refine (endonymref4_Ranges.calls kj7 _ _ t288 a1 t321 _ ?side1 ?side2 A34.out).mono ?_); (case side1 => repeat (first | exact (Kd.R_reads' HO_0.out).2.2 | (with_reducible refine Kd.C_alloc ?_ _) | (with_reducible refine Kd.C_drewN ?_ _) | (with_reducible refine Kd.C_drew ?_))); (case side2 => exact (Kd.R_reads' HO_0.out).2.1); rintro e w39 ⟨v322, rfl, ho0, hb⟩; have n0_ := Aside0.mk (Kd.R_elder' (by (with_reducible repeat (first | apply Kd.R_alloc | apply Kd.R_drewN | apply Kd.R_drew)); first | exact HO_0.out | exact Kd.R_mono HO_0.out (fun _ hk => ⟨⟨trivial, (by first | exact hk.1.2 | exact fun e_ => hk.1.2 (e_.trans (own_len _ _ _ _ _)))⟩, (by first | exact hk.2 | exact fun e_ => hk.2 (e_.trans (own_len _ _ _ _ _)))⟩)) (Kd.R_base ho0) hb); have n1_ := Aside0.mk (Kd.P_below (by (with_reducible repeat (first | apply Kd.P_alloc | apply Kd.P_drewN | apply Kd.P_drew)); first | exact HO_7.out | exact Kd.P_mono HO_7.out (fun _ hk => ⟨⟨⟨⟨trivial, (by first | exact hk.1.1.1.2 | exact fun e_ => hk.1.1.1.2 (e_.trans (own_len _ _ _ _ _)))⟩, (by first | exact hk.1.1.2 | exact fun e_ => hk.1.1.2 (e_.trans (own_len _ _ _ _ _)))⟩, (by first | exact hk.1.2 | exact fun e_ => hk.1.2 (e_.trans (own_len _ _ _ _ _)))⟩, (by first | exact hk.2 | exact fun e_ => hk.2 (e_.trans (own_len _ _ _ _ _)))⟩)) hb); have n2_ := Aside0.mk (Kd.R_below (by (with_reducible repeat (first | apply Kd.R_alloc | apply Kd.R_drewN | apply Kd.R_drew)); first | exact HO305.out | exact Kd.R_mono HO305.out (fun _ hk => ⟨⟨trivial, (by first | exact hk.1.2 | exact fun e_ => hk.1.2 (e_.trans (own_len _ _ _ _ _)))⟩, (by first | exact hk.2 | exact fun e_ => hk.2 (e_.trans (own_len _ _ _ _ _)))⟩)) hb); have n3_ := Aside0.mk (Kd.R_below (by (with_reducible repeat (first | apply Kd.R_alloc | apply Kd.R_drewN | apply Kd.R_drew)); exact HO307.out) hb); have n4_ := Aside0.mk (Kd.R_below (by (with_reducible repeat (first | apply Kd.R_alloc | apply Kd.R_drewN | apply Kd.R_drew)); first | exact HO310.out | exact Kd.R_mono HO310.out (fun _ hk => ⟨⟨trivial, (by first | exact hk.1.2 | exact fun e_ => hk.1.2 (e_.trans (own_len _ _ _ _ _)))⟩, (by first | exact hk.2 | exact fun e_ => hk.2 (e_.trans (own_len _ _ _ _ _)))⟩)) hb); have n5_ := Aside0.mk (Kd.R_below (by (with_reducible repeat (first | apply Kd.R_alloc | apply Kd.R_drewN | apply Kd.R_drew)); first | exact HO313.out | exact Kd.R_mono HO313.out (fun _ hk => ⟨⟨trivial, (by first | exact hk.1.2 | exact fun e_ => hk.1.2 (e_.trans (own_len _ _ _ _ _)))⟩, (by first | exact hk.2 | exact fun e_ => hk.2 (e_.trans (own_len _ _ _ _ _)))⟩)) hb); have n6_ := Aside0.mk (Kd.R_elder' (by (with_reducible repeat (first | apply Kd.R_alloc | apply Kd.R_drewN | apply Kd.R_drew)); first | exact HO316.out | exact Kd.R_mono HO316.out (fun _ hk => ⟨⟨trivial, (by first | exact hk.1.2 | exact fun e_ => hk.1.2 (e_.trans (own_len _ _ _ _ _)))⟩, (by first | exact hk.2 | exact fun e_ => hk.2 (e_.trans (own_len _ _ _ _ _)))⟩)) (Kd.R_base ho0) hb); have n7_ := Aside0.mk (Kd.R_elder' (by (with_reducible repeat (first | apply Kd.R_alloc | apply Kd.R_drewN | apply Kd.R_drew)); first | exact HO319.out | exact Kd.R_mono HO319.out (fun _ hk => ⟨⟨trivial, (by first | exact hk.1.2 | exact fun e_ => hk.1.2 (e_.trans (own_len _ _ _ _ _)))⟩, (by first | exact hk.2 | exact fun e_ => hk.2 (e_.trans (own_len _ _ _ _ _)))⟩)) (Kd.R_base ho0) hb); have n8_ := Aside0.mk (Kd.R_lower (Kd.R_new' (Kd.R_new' (Kd.R_new' ho0 (Kd.R_lt (by (with_reducible repeat (first | apply Kd.R_alloc | apply Kd.R_drewN | apply Kd.R_drew)); first | exact HO_0.out | exact Kd.R_mono HO_0.out (fun _ hk => ⟨⟨trivial, (by first | exact hk.1.2 | exact fun e_ => hk.1.2 (e_.trans (own_len _ _ _ _ _)))⟩, (by first | exact hk.2 | exact fun e_ => hk.2 (e_.trans (own_len _ _ _ _ _)))⟩)))) (Kd.R_lt (by (with_reducible repeat (first | apply Kd.R_alloc | apply Kd.R_drewN | apply Kd.R_drew)); first | exact HO316.out | exact Kd.R_mono HO316.out (fun _ hk => ⟨⟨trivial, (by first | exact hk.1.2 | exact fun e_ => hk.1.2 (e_.trans (own_len _ _ _ _ _)))⟩, (by first | exact hk.2 | exact fun e_ => hk.2 (e_.trans (own_len _ _ _ _ _)))⟩)))) (Kd.R_lt (by (with_reducible repeat (first | apply Kd.R_alloc | apply Kd.R_drewN | apply Kd.R_drew)); first | exact HO319.out | exact Kd.R_mono HO319.out (fun _ hk => ⟨⟨trivial, (by first | exact hk.1.2 | exact fun e_ => hk.1.2 (e_.trans (own_len _ _ _ _ _)))⟩, (by first | exact hk.2 | exact fun e_ => hk.2 (e_.trans (own_len _ _ _ _ _)))⟩)))) (below_size (by repeat (first | (with_reducible first | exact HB.out | apply below_alloc | apply pw_below_drewN | apply below_drew1) | exact HB.out)))); have n9_ := Aside0.mk (below_step (by repeat (first | (with_reducible first | exact HB.out | apply below_alloc | apply pw_below_drewN | apply below_drew1) | exact HB.out)) hb); clear HO_0; clear HO_7; clear HO305; clear HO307; clear HO310; clear HO313; clear HO316; clear HO319; clear HB; have HO_0 := n0_; have HO_7 := n1_; have HO305 := n2_; have HO307 := n3_; have HO310 := n4_; have HO313 := n5_; have HO316 := n6_; have HO319 := n7_; have HO323 := n8_; have HB := n9_; clear n0_ n1_ n2_ n3_ n4_ n5_ n6_ n7_ n8_ n9_; (try clear hb); (try clear hb2); (try clear hk); (try clear hi); (try clear ho0); obtain ⟨Ao40, co40, eo40⟩ := Kd.R_slice HO316.out; subst eo40; obtain ⟨Ao41, co41, eo41⟩ := Kd.R_slice HO323.out; subst eo41) | (go_at_call 12; (with_reducible refine (endonymref4_Same.calls kj7 _ _ t314 _ _ t321 t324 _ ?side1 ?side2 ?side3 ?side4 A35.out).mono ?_); (case side1 => repeat (first | exact (Kd.R_reads' HO316.out).2.2 | (with_reducible refine Kd.C_alloc ?_ _) | (with_reducible refine Kd.C_drewN ?_ _) | (with_reducible refine Kd.C_drew ?_))); (case side2 => exact (Kd.R_reads' HO316.out).2.1); (case side3 => repeat (first | exact (Kd.R_reads' HO323.out).2.2 | (with_reducible refine Kd.C_alloc ?_ _) | (with_reducible refine Kd.C_drewN ?_ _) | (with_reducible refine Kd.C_drew ?_))); (case side4 => exact (Kd.R_reads' HO323.out).2.1); rintro e w' ⟨rfl, ⟨nd, rfl⟩⟩))
        go_meet
        case rel => exact ⟨_, (!t324), (by first | rfl | (simp; done) | (simp [*]; done)), H', ⟨by have := HJ7.out; first | omega | exact Nat.le_refl _⟩, ⟨by (with_reducible repeat (first | apply Kd.R_alloc | apply Kd.R_drewN | apply Kd.R_drew)); first | exact Kd.R_mono HO_0.out (fun _ hk => ⟨hk.1.1.2, hk.1.2⟩) | exact Kd.R_mono HO_0.out (fun _ hk => ⟨(by first | exact hk.1.1.2 | exact fun e_ => hk.1.1.2 (e_.trans (own_len _ _ _ _ _))), (by first | exact hk.1.2 | exact fun e_ => hk.1.2 (e_.trans (own_len _ _ _ _ _)))⟩)⟩, ⟨by (with_reducible repeat (first | apply Kd.P_alloc | apply Kd.P_drewN | apply Kd.P_drew)); first | exact Kd.P_mono HO_7.out (fun _ hk => ⟨hk.1.1.1.2, ⟨hk.1.1.2, ⟨hk.1.2, hk.2⟩⟩⟩) | exact Kd.P_mono HO_7.out (fun _ hk => ⟨(by first | exact hk.1.1.1.2 | exact fun e_ => hk.1.1.1.2 (e_.trans (own_len _ _ _ _ _))), ⟨(by first | exact hk.1.1.2 | exact fun e_ => hk.1.1.2 (e_.trans (own_len _ _ _ _ _))), ⟨(by first | exact hk.1.2 | exact fun e_ => hk.1.2 (e_.trans (own_len _ _ _ _ _))), (by first | exact hk.2 | exact fun e_ => hk.2 (e_.trans (own_len _ _ _ _ _)))⟩⟩⟩)⟩, ⟨by (with_reducible repeat (first | apply Kd.R_alloc | apply Kd.R_drewN | apply Kd.R_drew)); first | exact Kd.R_mono HO305.out (fun _ hk => ⟨hk.1.2, hk.2⟩) | exact Kd.R_mono HO305.out (fun _ hk => ⟨(by first | exact hk.1.2 | exact fun e_ => hk.1.2 (e_.trans (own_len _ _ _ _ _))), (by first | exact hk.2 | exact fun e_ => hk.2 (e_.trans (own_len _ _ _ _ _)))⟩)⟩, ⟨by (with_reducible repeat (first | apply Kd.R_alloc | apply Kd.R_drewN | apply Kd.R_drew)); exact HO307.out⟩, ⟨by (with_reducible repeat (first | apply Kd.R_alloc | apply Kd.R_drewN | apply Kd.R_drew)); first | exact Kd.R_mono HO310.out (fun _ hk => ⟨hk.1.2, hk.2⟩) | exact Kd.R_mono HO310.out (fun _ hk => ⟨(by first | exact hk.1.2 | exact fun e_ => hk.1.2 (e_.trans (own_len _ _ _ _ _))), (by first | exact hk.2 | exact fun e_ => hk.2 (e_.trans (own_len _ _ _ _ _)))⟩)⟩, ⟨by (with_reducible repeat (first | apply Kd.R_alloc | apply Kd.R_drewN | apply Kd.R_drew)); first | exact Kd.R_mono HO313.out (fun _ hk => ⟨hk.1.2, hk.2⟩) | exact Kd.R_mono HO313.out (fun _ hk => ⟨(by first | exact hk.1.2 | exact fun e_ => hk.1.2 (e_.trans (own_len _ _ _ _ _))), (by first | exact hk.2 | exact fun e_ => hk.2 (e_.trans (own_len _ _ _ _ _)))⟩)⟩, ⟨by (with_reducible repeat (first | apply Kd.R_alloc | apply Kd.R_drewN | apply Kd.R_drew)); first | exact Kd.R_mono HO316.out (fun _ hk => ⟨hk.1.1.2, hk.1.2⟩) | exact Kd.R_mono HO316.out (fun _ hk => ⟨(by first | exact hk.1.1.2 | exact fun e_ => hk.1.1.2 (e_.trans (own_len _ _ _ _ _))), (by first | exact hk.1.2 | exact fun e_ => hk.1.2 (e_.trans (own_len _ _ _ _ _)))⟩)⟩, ⟨by (with_reducible repeat (first | apply Kd.R_alloc | apply Kd.R_drewN | apply Kd.R_drew)); first | exact Kd.R_mono HO319.out (fun _ hk => ⟨hk.1.1.2, hk.1.2⟩) | exact Kd.R_mono HO319.out (fun _ hk => ⟨(by first | exact hk.1.1.2 | exact fun e_ => hk.1.1.2 (e_.trans (own_len _ _ _ _ _))), (by first | exact hk.1.2 | exact fun e_ => hk.1.2 (e_.trans (own_len _ _ _ _ _)))⟩)⟩, ⟨by repeat (first | (with_reducible first | exact HB.out | apply below_alloc | apply pw_below_drewN | apply below_drew1) | exact HB.out)⟩⟩
       ·rw [if_neg c33] at H
        have c33b0 : (t320 == (t303.length : Int)) = false := beq_eq_false_iff_ne.mpr c33
        have c33b1 : (t320 != (t303.length : Int)) = true := bne_iff_ne.mpr c33
        exact (endonymlaw4_TrieBlocks.j1_no H).elim
      ·rw [if_neg c31] at H
       have c31b0 : ((t308.length : Int) == (t302.length : Int)) = false := beq_eq_false_iff_ne.mpr c31
       have c31b1 : ((t308.length : Int) != (t302.length : Int)) = true := bne_iff_ne.mpr c31
       have c31b2 : (t308.length == t302.length) = false := by first | simpa using c31 | (simp at c31 ⊢; omega)
       (first | rw [c31b0] | (simp only [i64_w, i32_w]; rw [c31b0]) | skip)
       exact (endonymlaw4_TrieBlocks.j1_no H).elim
     case rest =>
      clear HC24
      (try clear c1); (try clear c2); (try clear p2); (try clear c3); (try clear c5); (try clear c7); (try clear c7b0); (try clear c7b1); (try clear c8); (try clear c9); (try clear c10); (try clear c11); (try clear c14); (try clear c18); (try clear c19); (try clear c20); (try clear c31); (try clear c31b0); (try clear c31b1); (try clear c31b2); (try clear c33); (try clear c33b0); (try clear c33b1); (try clear p2)
      obtain ⟨kq, x90_23, rfl, HA, HJ23, HO_0, HO_7, HO_12, HO_13, HO_14, HO_15, HO_16, HO_17, HB⟩ := hcut
      cases kq with
      | zero => exact absurd HA.out (by simp [endonymlaw4_TrieBlocks.j1])
      | succ kj23 =>
       have H := HA.out
       clear HA
       simp only [endonymlaw4_TrieBlocks.j1] at H
       by_cases c42 : x90_23 = true
       ·subst c42
        have H1 : (some false) = some true := by rw [if_pos rfl] at H; exact H
        clear H; have H := H1; clear H1
        exact absurd H (by simp)
       ·replace c42 := Bool.eq_false_iff.mpr c42
        subst c42
        have H1 : (endonymlaw4_TrieBlocks.l0 kj23 t288 a1 a2 t293 t302 t303 t308 t311 t314 t317 0) = some true := by rw [if_neg (show ¬ (false = true) by decide)] at H; exact H
        clear H; have H := H1; clear H1
        have H' := Aside0.mk H
        clear H
        go_wp2
        go_loopg [18] kj23 (fun kq v18 w' => ∃ (x14_3 : List Int) (x18_3 : Int), v18 = .int .i64 x18_3 ∧ Aside0 (endonymlaw4_TrieBlocks.l0 kq t288 a1 a2 t293 t302 t303 x14_3 t311 t314 t317 x18_3 = some true) ∧ Aside0 (kq ≤ kj23) ∧ Aside0 (Kd.R k35 35 w' w.heap.size (fun k_ => some k_ ≠ (v315 : Value).ownBlock ∧ some k_ ≠ (v318 : Value).ownBlock) (.slice Ao10 t288.length co10) t288) ∧ Aside0 (Kd.P k57 57 w' w.heap.size (fun k_ => some k_ ≠ (v304 : Value).ownBlock ∧ some k_ ≠ (v306 : Value).ownBlock ∧ some k_ ≠ (v309 : Value).ownBlock ∧ some k_ ≠ (v312 : Value).ownBlock) (.pointer Ao26) t293) ∧ Aside0 (Kd.R (Kd.int .u16) 49 w' w.heap.size (fun k_ => some k_ ≠ (v309 : Value).ownBlock ∧ some k_ ≠ (v312 : Value).ownBlock) v304 t302) ∧ Aside0 (Kd.R (Kd.arr 64 (Kd.int .u16) (by decide)) 50 w' w.heap.size (fun _ => True) v306 t303) ∧ Aside0 (Kd.R (Kd.int .u16) 49 w' w.heap.size (fun k_ => some k_ ≠ (v304 : Value).ownBlock ∧ some k_ ≠ (v312 : Value).ownBlock) v309 x14_3) ∧ Aside0 (Kd.R (Kd.int .u16) 49 w' w.heap.size (fun k_ => some k_ ≠ (v304 : Value).ownBlock ∧ some k_ ≠ (v309 : Value).ownBlock) v312 t311) ∧ Aside0 (Kd.R k35 35 w' w.heap.size (fun k_ => some k_ ≠ ((.slice Ao10 t288.length co10) : Value).ownBlock ∧ some k_ ≠ (v318 : Value).ownBlock) v315 t314) ∧ Aside0 (Kd.R k35 35 w' w.heap.size (fun k_ => some k_ ≠ ((.slice Ao10 t288.length co10) : Value).ownBlock ∧ some k_ ≠ (v315 : Value).ownBlock) v318 t317) ∧ Aside0 (Below w.heap.size w w'))
        case atStart => exact ⟨(t308), (0), (by first | rfl | (simp; done) | (simp [*]; done)), H', ⟨Nat.le_refl _⟩, ⟨by (with_reducible repeat (first | apply Kd.R_alloc | apply Kd.R_drewN | apply Kd.R_drew)); first | exact HO_0.out | exact Kd.R_mono HO_0.out (fun _ hk => ⟨(by first | exact hk.1 | exact fun e_ => hk.1 (e_.trans (own_len _ _ _ _ _))), (by first | exact hk.2 | exact fun e_ => hk.2 (e_.trans (own_len _ _ _ _ _)))⟩)⟩, ⟨by (with_reducible repeat (first | apply Kd.P_alloc | apply Kd.P_drewN | apply Kd.P_drew)); first | exact HO_7.out | exact Kd.P_mono HO_7.out (fun _ hk => ⟨(by first | exact hk.1 | exact fun e_ => hk.1 (e_.trans (own_len _ _ _ _ _))), ⟨(by first | exact hk.2.1 | exact fun e_ => hk.2.1 (e_.trans (own_len _ _ _ _ _))), ⟨(by first | exact hk.2.2.1 | exact fun e_ => hk.2.2.1 (e_.trans (own_len _ _ _ _ _))), (by first | exact hk.2.2.2 | exact fun e_ => hk.2.2.2 (e_.trans (own_len _ _ _ _ _)))⟩⟩⟩)⟩, ⟨by (with_reducible repeat (first | apply Kd.R_alloc | apply Kd.R_drewN | apply Kd.R_drew)); first | exact HO_12.out | exact Kd.R_mono HO_12.out (fun _ hk => ⟨(by first | exact hk.1 | exact fun e_ => hk.1 (e_.trans (own_len _ _ _ _ _))), (by first | exact hk.2 | exact fun e_ => hk.2 (e_.trans (own_len _ _ _ _ _)))⟩)⟩, ⟨by (with_reducible repeat (first | apply Kd.R_alloc | apply Kd.R_drewN | apply Kd.R_drew)); exact HO_13.out⟩, ⟨by (with_reducible repeat (first | apply Kd.R_alloc | apply Kd.R_drewN | apply Kd.R_drew)); first | exact HO_14.out | exact Kd.R_mono HO_14.out (fun _ hk => ⟨(by first | exact hk.1 | exact fun e_ => hk.1 (e_.trans (own_len _ _ _ _ _))), (by first | exact hk.2 | exact fun e_ => hk.2 (e_.trans (own_len _ _ _ _ _)))⟩)⟩, ⟨by (with_reducible repeat (first | apply Kd.R_alloc | apply Kd.R_drewN | apply Kd.R_drew)); first | exact HO_15.out | exact Kd.R_mono HO_15.out (fun _ hk => ⟨(by first | exact hk.1 | exact fun e_ => hk.1 (e_.trans (own_len _ _ _ _ _))), (by first | exact hk.2 | exact fun e_ => hk.2 (e_.trans (own_len _ _ _ _ _)))⟩)⟩, ⟨by (with_reducible repeat (first | apply Kd.R_alloc | apply Kd.R_drewN | apply Kd.R_drew)); first | exact HO_16.out | exact Kd.R_mono HO_16.out (fun _ hk => ⟨(by first | exact hk.1 | exact fun e_ => hk.1 (e_.trans (own_len _ _ _ _ _))), (by first | exact hk.2 | exact fun e_ => hk.2 (e_.trans (own_len _ _ _ _ _)))⟩)⟩, ⟨by (with_reducible repeat (first | apply Kd.R_alloc | apply Kd.R_drewN | apply Kd.R_drew)); first | exact HO_17.out | exact Kd.R_mono HO_17.out (fun _ hk => ⟨(by first | exact hk.1 | exact fun e_ => hk.1 (e_.trans (own_len _ _ _ _ _))), (by first | exact hk.2 | exact fun e_ => hk.2 (e_.trans (own_len _ _ _ _ _)))⟩)⟩, ⟨by repeat (first | (with_reducible first | exact HB.out | apply below_alloc | apply pw_below_drewN | apply below_drew1) | exact HB.out)⟩⟩
        case round =>
         clear H'
         (try clear c1); (try clear c2); (try clear p2); (try clear c3); (try clear c4); (try clear c5); (try clear c7); (try clear c7b0); (try clear c7b1); (try clear c8); (try clear c9); (try clear c10); (try clear c11); (try clear c14); (try clear c18); (try clear c19); (try clear c20); (try clear c31); (try clear c31b0); (try clear c31b1); (try clear c31b2); (try clear c33); (try clear c33b0); (try clear c33b1); (try clear c42); (try clear p2)
         obtain ⟨x14_3, x18_3, rfl, HA, HK3, HO_0, HO_7, HO_12, HO_13, HO_14, HO_15, HO_16, HO_17, HB⟩ := hrel
         cases gk with
         | zero => exact absurd HA.out (by simp [endonymlaw4_TrieBlocks.l0])
         | succ k3 =>
          have H := HA.out
          clear HA
          simp only [endonymlaw4_TrieBlocks.l0] at H
          by_cases c43 : x18_3 < (x14_3.length : Int)
          ·rw [if_pos c43] at H
           have c43b0 : decide (x18_3 < (x14_3.length : Int)) = true := decide_eq_true c43
           clear c43
           by_cases c44 : 0 ≤ x18_3
           ·rw [if_pos c44] at H
            have c44b0 : decide (0 ≤ x18_3) = true := decide_eq_true c44
            clear c44
            by_cases c45 : x18_3 < (t302.length : Int)
            ·rw [if_pos c45] at H
             have c45b0 : decide (x18_3 < (t302.length : Int)) = true := decide_eq_true c45
             clear c45
             by_cases c46 : (rd x14_3 x18_3) = (rd t302 x18_3)
             ·rw [if_pos c46] at H
              have c46b0 : ((rd x14_3 x18_3) == (rd t302 x18_3)) = true := beq_iff_eq.mpr c46
              have c46b1 : ((rd x14_3 x18_3) != (rd t302 x18_3)) = false := bne_eq_false_iff_eq.mpr c46
              clear c46
              obtain ⟨y327, hy327⟩ : ∃ y_ : List Int, y_ = (x14_3.set (x18_3 : Int).toNat 65535) := ⟨_, rfl⟩
              replace H : (endonymlaw4_TrieBlocks.l0 k3 t288 a1 a2 t293 t302 t303 y327 t311 t314 t317 (wrap64 (x18_3 + 1))) = some true := by first | (rw [hy327]; with_reducible exact H) | (have H2_ := (Option.bind_some _ _).symm.trans H; rw [hy327]; with_reducible exact H2_) | (have H2_ := (Option.bind_some _ _).symm.trans H; with_reducible exact H2_) | with_reducible exact H | (rw [hy327]; exact H) | exact H
              have Ny327 := Aside0.mk hy327
              clear hy327
              have H' := Aside0.mk H
              clear H
              obtain ⟨Ao48, co48, eo48⟩ := Kd.R_slice HO_14.out
              subst eo48
              try go_wp2
              have n0_ := Aside0.mk (Kd.R_drew HO_0.out); have n1_ := Aside0.mk (Kd.P_drew HO_7.out); have n2_ := Aside0.mk (Kd.R_drew HO_12.out); have n3_ := Aside0.mk (Kd.R_drew HO_13.out); have n4_ := Aside0.mk (Kd.R_drew HO_14.out); have n5_ := Aside0.mk (Kd.R_drew HO_15.out); have n6_ := Aside0.mk (Kd.R_drew HO_16.out); have n7_ := Aside0.mk (Kd.R_drew HO_17.out); have n8_ := Aside0.mk (below_drew1 HB.out); clear HO_0; clear HO_7; clear HO_12; clear HO_13; clear HO_14; clear HO_15; clear HO_16; clear HO_17; clear HB; have HO_0 := n0_; have HO_7 := n1_; have HO_12 := n2_; have HO_13 := n3_; have HO_14 := n4_; have HO_15 := n5_; have HO_16 := n6_; have HO_17 := n7_; have HB := n8_; clear n0_ n1_ n2_ n3_ n4_ n5_ n6_ n7_ n8_
              have p325 : 0 ≤ (x18_3 : Int) := of_decide_eq_true (by first | (with_reducible assumption) | assumption)
              have q325 : x18_3 < (x14_3.length : Int) := of_decide_eq_true (by first | (with_reducible assumption) | assumption)
              obtain ⟨ad325, e325, hx325_0⟩ := Kd.at_int (Kd.R_reads' HO_14.out).2.2 x18_3 p325 q325
              cases e325; replace p325 := eq_true p325; replace q325 := eq_true q325
              obtain ⟨Ao50, co50, eo50⟩ := Kd.R_slice HO_12.out
              (first | subst eo50 | (injection eo50 with f1_ f2_ f3_; have f4_ := f1_.symm; have f5_ := f3_.symm; clear f1_ f2_ f3_; subst f4_; subst f5_))
              have p326 : 0 ≤ (x18_3 : Int) := of_decide_eq_true (by first | (with_reducible assumption) | assumption)
              have q326 : x18_3 < (t302.length : Int) := of_decide_eq_true (by first | (with_reducible assumption) | assumption)
              obtain ⟨ad326, e326, hx326_0⟩ := Kd.at_int (Kd.R_reads' HO_12.out).2.2 x18_3 p326 q326
              cases e326; replace p326 := eq_true p326; replace q326 := eq_true q326
              refine start_ (n := 9) (S := fun w' => w'.cell? (ad325.add (x18_3).toNat) = some (.int .u16 (rd x14_3 x18_3)) ∧ w'.cell? (ad326.add (x18_3).toNat) = some (.int .u16 (rd t302 x18_3))) (ds := []) #[false, false, false, false, false, false, false, false, false] (by kernel_rfl) rfl rfl ⟨hx325_0, hx326_0⟩ (fun hHeld => ?_); refine with_tabW endonymlaw4_TrieBlocks.tab16 endonymlaw4_TrieBlocks.bits16 (fun HT_ HW_ => ?_)
              generalize wr.drew = w49 at HO_0 HO_7 HO_12 HO_13 HO_14 HO_15 HO_16 HO_17 HB hx325_0 hx326_0 hHeld ⊢
              refine pure_ (i := 0) (N := some 97) (v := ?_) (a' := ?_) #[x_, o_, o_, o_, o_, o_, o_, o_, o_] rfl rfl (any_of HT_.out (by kernel_rfl)) (fun _ _ _ h => h) (Or.inl ⟨by rfl, ?_⟩) ?_ ?_; rotate_left; (·(intro w'; go_simp <;> with_reducible rfl)); rotate_left; (·(simp only [Act.put, List.setIfInBounds_toArray, List.set_cons_zero, List.set_cons_succ, i64_w, i32_w] <;> rfl))
              refine pure_ (i := 1) (N := some 98) (v := ?_) (a' := ?_) #[x_, x_, o_, o_, o_, o_, o_, o_, o_] rfl rfl (any_of HT_.out (by kernel_rfl)) (fun _ _ _ h => h) (Or.inl ⟨by rfl, ?_⟩) ?_ ?_; rotate_left; (·(intro w'; go_simp <;> with_reducible rfl)); rotate_left; (·(simp only [Act.put, List.setIfInBounds_toArray, List.set_cons_zero, List.set_cons_succ, i64_w, i32_w] <;> rfl))
              refine pure_ (i := 2) (N := some 99) (v := ?_) (a' := ?_) #[x_, x_, x_, o_, o_, o_, o_, o_, o_] rfl rfl (any_of HT_.out (by kernel_rfl)) (fun _ _ _ h => h) (Or.inl ⟨by rfl, ?_⟩) ?_ ?_; rotate_left; (·(intro w'; go_simp <;> with_reducible rfl)); rotate_left; (·(simp only [Act.put, List.setIfInBounds_toArray, List.set_cons_zero, List.set_cons_succ, i64_w, i32_w] <;> rfl))
              refine pure_ (i := 4) (N := some 101) (v := ?_) (a' := ?_) #[x_, x_, x_, o_, x_, o_, o_, o_, o_] rfl rfl (any_of HT_.out (by kernel_rfl)) (fun _ _ _ h => h) (Or.inl ⟨by rfl, ?_⟩) ?_ ?_; rotate_left; (·(intro w'; go_simp <;> with_reducible rfl)); rotate_left; (·(simp only [Act.put, List.setIfInBounds_toArray, List.set_cons_zero, List.set_cons_succ, i64_w, i32_w] <;> rfl))
              refine pure_ (i := 5) (N := some 102) (v := ?_) (a' := ?_) #[x_, x_, x_, o_, x_, x_, o_, o_, o_] rfl rfl (any_of HT_.out (by kernel_rfl)) (fun _ _ _ h => h) (Or.inl ⟨by rfl, ?_⟩) ?_ ?_; rotate_left; (·(intro w'; go_simp <;> with_reducible rfl)); rotate_left; (·(simp only [Act.put, List.setIfInBounds_toArray, List.set_cons_zero, List.set_cons_succ, i64_w, i32_w] <;> rfl))
              refine pure_ (i := 6) (N := some 103) (v := ?_) (a' := ?_) #[x_, x_, x_, o_, x_, x_, x_, o_, o_] rfl rfl (any_of HT_.out (by kernel_rfl)) (fun _ _ _ h => h) (Or.inl ⟨by rfl, ?_⟩) ?_ ?_; rotate_left; (·(intro w'; go_simp <;> with_reducible rfl)); rotate_left; (·(simp only [Act.put, List.setIfInBounds_toArray, List.set_cons_zero, List.set_cons_succ, i64_w, i32_w] <;> rfl))
              refine take_ (i := 3) (N := some 100) (v := ?_) (a' := ?_) #[true, true, true, true, true, true, true, false, false] rfl rfl (take_ofW HT_.out HW_.out (by kernel_rfl)) (fun _ _ _ h => h) (Or.inl ⟨by rfl, ?_⟩) hHeld ?_ ?_
              rotate_left
              ·rintro w' ⟨s0, s1⟩
               go_simp
               with_reducible rfl
              rotate_left
              ·simp only [Act.put, List.setIfInBounds_toArray, List.set_cons_zero, List.set_cons_succ, i64_w, i32_w]
               rfl
              refine take_ (i := 7) (N := some 104) (v := ?_) (a' := ?_) #[true, true, true, true, true, true, true, true, false] rfl rfl (take_ofW HT_.out HW_.out (by kernel_rfl)) (fun _ _ _ h => h) (Or.inl ⟨by rfl, ?_⟩) hHeld ?_ ?_
              rotate_left
              ·rintro w' ⟨s0, s1⟩
               go_simp
               with_reducible rfl
              rotate_left
              ·simp only [Act.put, List.setIfInBounds_toArray, List.set_cons_zero, List.set_cons_succ, i64_w, i32_w]
               rfl
              refine pure_ (i := 8) (N := some 105) (v := ?_) (a' := ?_) #[x_, x_, x_, x_, x_, x_, x_, x_, x_] rfl rfl (any_of HT_.out (by kernel_rfl)) (fun _ _ _ h => h) (Or.inl ⟨by rfl, ?_⟩) ?_ ?_; rotate_left; (·(intro w'; go_simp <;> with_reducible rfl)); rotate_left; (·(simp only [Act.put, List.setIfInBounds_toArray, List.set_cons_zero, List.set_cons_succ, i64_w, i32_w] <;> rfl))
              refine done_ (done_of HT_.out (by kernel_rfl)) ?_
              have p47 : 0 ≤ (x18_3 : Int) := of_decide_eq_true (by first | (with_reducible assumption) | assumption)
              have q47 : (x18_3 : Int) < ((x14_3.length : Int) : Int) := of_decide_eq_true (by first | (with_reducible assumption) | assumption)
              obtain ⟨go47, co47, eo47, gb47, gl47, cl47, HG47⟩ := Kd.R_form HO_14.out (by omega)
              (first | cases eo47 | (injection eo47 with ea_ en_ ec_; (first | subst ea_ | (injection ea_ with ea_; subst ea_)); subst ec_; clear en_))
              have GB47 := Aside0.mk gb47
              have GG47 := Aside0.mk HG47
              clear gb47 gl47 HG47
              (first | simp only [add_plain] at hx325_0 | skip)
              obtain ⟨hx47_0, hf47_0⟩ := Kd.R_celln 0 HO_14.out (x18_3 : Int) p47 q47
              replace p47 := eq_true p47; replace q47 := eq_true q47
              obtain ⟨hy51_, hz51_⟩ := Kd.R_celln 0 HO_14.out (x18_3 : Int) (of_decide_eq_true (by first | (with_reducible assumption) | assumption)) (of_decide_eq_true (by first | (with_reducible assumption) | assumption))
              have HP51 := Kd.R_putg HO_14.out (x18_3 : Int) 65535
              try go_wp2_with (first | ((with_reducible refine gate_store (t := 49) (p := 108) rfl ?_); refine store_event (t := 49) (p := 108) (v := ?vo_w52) (w1 := (w49.setCell ⟨go47, (x18_3 : Int).toNat, none⟩ (.int .u16 65535))) ?hg ?ho ?hn ?hr ?_; (case ho => rfl); (case hg => rfl); (case hn => rfl); (case hr => first | (go_simp; done) | (go_simp; rfl)); intro w52 hw; have hg : w49.grownBy w52 (some go47) := (by rw [hw]; exact HP51.2); have hp_ : Kd.R (Kd.int .u16) 49 w52 w.heap.size (fun k_ => some k_ ≠ (.slice (some ad326) t302.length co50 : Value).ownBlock ∧ some k_ ≠ (v312 : Value).ownBlock) (.slice (some ⟨go47, 0, none⟩) x14_3.length co48) y327 := (by rw [hw, Ny327.out]; exact HP51.1); clear HP51; have n0_ := Aside0.mk (Kd.R_over' (v := (.slice (some ⟨go47, 0, none⟩) x14_3.length co48)) (by (with_reducible repeat (first | apply Kd.R_alloc | apply Kd.R_drewN | apply Kd.R_drew)); first | exact HO_0.out | exact Kd.R_mono HO_0.out (fun _ hk => ⟨(by first | exact hk.1 | exact fun e_ => hk.1 (e_.trans (own_len _ _ _ _ _))), (by first | exact hk.2 | exact fun e_ => hk.2 (e_.trans (own_len _ _ _ _ _)))⟩)) (Kd.R_typed HO_14.out) (by decide) hg); have n1_ := Aside0.mk (Kd.P_after (v := (.slice (some ⟨go47, 0, none⟩) x14_3.length co48)) (v1 := (.slice (some ⟨go47, 0, none⟩) x14_3.length co48)) (ok := (fun k_ => some k_ ≠ (.slice (some ad326) t302.length co50 : Value).ownBlock ∧ some k_ ≠ (v306 : Value).ownBlock ∧ some k_ ≠ (v312 : Value).ownBlock)) (by (with_reducible repeat (first | apply Kd.P_alloc | apply Kd.P_drewN | apply Kd.P_drew)); first | exact Kd.P_mono HO_7.out (fun _ hk => ⟨⟨hk.1, ⟨hk.2.1, hk.2.2.2⟩⟩, hk.2.2.1⟩) | exact Kd.P_mono HO_7.out (fun _ hk => ⟨⟨(by first | exact hk.1 | exact fun e_ => hk.1 (e_.trans (own_len _ _ _ _ _))), ⟨(by first | exact hk.2.1 | exact fun e_ => hk.2.1 (e_.trans (own_len _ _ _ _ _))), (by first | exact hk.2.2.2 | exact fun e_ => hk.2.2.2 (e_.trans (own_len _ _ _ _ _)))⟩⟩, (by first | exact hk.2.2.1 | exact fun e_ => hk.2.2.1 (e_.trans (own_len _ _ _ _ _)))⟩)) hg (.inl rfl)); have n2_ := Aside0.mk (Kd.R_after (v := (.slice (some ⟨go47, 0, none⟩) x14_3.length co48)) (v1 := (.slice (some ⟨go47, 0, none⟩) x14_3.length co48)) (ok := (fun k_ => some k_ ≠ (v312 : Value).ownBlock)) (by (with_reducible repeat (first | apply Kd.R_alloc | apply Kd.R_drewN | apply Kd.R_drew)); first | exact Kd.R_mono HO_12.out (fun _ hk => ⟨hk.2, hk.1⟩) | exact Kd.R_mono HO_12.out (fun _ hk => ⟨(by first | exact hk.2 | exact fun e_ => hk.2 (e_.trans (own_len _ _ _ _ _))), (by first | exact hk.1 | exact fun e_ => hk.1 (e_.trans (own_len _ _ _ _ _)))⟩)) hg (.inl rfl)); have n3_ := Aside0.mk (Kd.R_over' (v := (.slice (some ⟨go47, 0, none⟩) x14_3.length co48)) (by (with_reducible repeat (first | apply Kd.R_alloc | apply Kd.R_drewN | apply Kd.R_drew)); exact HO_13.out) (Kd.R_typed HO_14.out) (by decide) hg); have n4_ := Aside0.mk (hp_); have n5_ := Aside0.mk (Kd.R_after (v := (.slice (some ⟨go47, 0, none⟩) x14_3.length co48)) (v1 := (.slice (some ⟨go47, 0, none⟩) x14_3.length co48)) (ok := (fun k_ => some k_ ≠ (.slice (some ad326) t302.length co50 : Value).ownBlock)) (by (with_reducible repeat (first | apply Kd.R_alloc | apply Kd.R_drewN | apply Kd.R_drew)); first | exact HO_15.out | exact Kd.R_mono HO_15.out (fun _ hk => ⟨(by first | exact hk.1 | exact fun e_ => hk.1 (e_.trans (own_len _ _ _ _ _))), (by first | exact hk.2 | exact fun e_ => hk.2 (e_.trans (own_len _ _ _ _ _)))⟩)) hg (.inl rfl)); have n6_ := Aside0.mk (Kd.R_over' (v := (.slice (some ⟨go47, 0, none⟩) x14_3.length co48)) (by (with_reducible repeat (first | apply Kd.R_alloc | apply Kd.R_drewN | apply Kd.R_drew)); first | exact HO_16.out | exact Kd.R_mono HO_16.out (fun _ hk => ⟨(by first | exact hk.1 | exact fun e_ => hk.1 (e_.trans (own_len _ _ _ _ _))), (by first | exact hk.2 | exact fun e_ => hk.2 (e_.trans (own_len _ _ _ _ _)))⟩)) (Kd.R_typed HO_14.out) (by decide) hg); have n7_ := Aside0.mk (Kd.R_over' (v := (.slice (some ⟨go47, 0, none⟩) x14_3.length co48)) (by (with_reducible repeat (first | apply Kd.R_alloc | apply Kd.R_drewN | apply Kd.R_drew)); first | exact HO_17.out | exact Kd.R_mono HO_17.out (fun _ hk => ⟨(by first | exact hk.1 | exact fun e_ => hk.1 (e_.trans (own_len _ _ _ _ _))), (by first | exact hk.2 | exact fun e_ => hk.2 (e_.trans (own_len _ _ _ _ _)))⟩)) (Kd.R_typed HO_14.out) (by decide) hg); have n8_ := Aside0.mk ((by rw [hw]; exact below_set (HB.out) GB47.out : Below w.heap.size w w52)); clear HO_0; clear HO_7; clear HO_12; clear HO_13; clear HO_14; clear HO_15; clear HO_16; clear HO_17; clear HB; have HO_0 := n0_; have HO_7 := n1_; have HO_12 := n2_; have HO_13 := n3_; have HO_14 := n4_; have HO_15 := n5_; have HO_16 := n6_; have HO_17 := n7_; have HB := n8_; clear n0_ n1_ n2_ n3_ n4_ n5_ n6_ n7_ n8_; clear hg hw hp_))
              go_roundg k3
              case measure => have := HJ7.out; have := HJ23.out; have := HK3.out; omega
              case rel => exact ⟨(y327), (wrap64 (x18_3 + 1)), (by first | rfl | (simp; done) | (simp [*]; done)), H', ⟨by have := HJ7.out; have := HJ23.out; have := HK3.out; omega⟩, ⟨by (with_reducible repeat (first | apply Kd.R_alloc | apply Kd.R_drewN | apply Kd.R_drew)); first | exact HO_0.out | exact Kd.R_mono HO_0.out (fun _ hk => ⟨(by first | exact hk.1 | exact fun e_ => hk.1 (e_.trans (own_len _ _ _ _ _))), (by first | exact hk.2 | exact fun e_ => hk.2 (e_.trans (own_len _ _ _ _ _)))⟩)⟩, ⟨by (with_reducible repeat (first | apply Kd.P_alloc | apply Kd.P_drewN | apply Kd.P_drew)); first | exact Kd.P_mono HO_7.out (fun _ hk => ⟨hk.1.1, ⟨hk.1.2.1, ⟨hk.2, hk.1.2.2⟩⟩⟩) | exact Kd.P_mono HO_7.out (fun _ hk => ⟨(by first | exact hk.1.1 | exact fun e_ => hk.1.1 (e_.trans (own_len _ _ _ _ _))), ⟨(by first | exact hk.1.2.1 | exact fun e_ => hk.1.2.1 (e_.trans (own_len _ _ _ _ _))), ⟨(by first | exact hk.2 | exact fun e_ => hk.2 (e_.trans (own_len _ _ _ _ _))), (by first | exact hk.1.2.2 | exact fun e_ => hk.1.2.2 (e_.trans (own_len _ _ _ _ _)))⟩⟩⟩)⟩, ⟨by (with_reducible repeat (first | apply Kd.R_alloc | apply Kd.R_drewN | apply Kd.R_drew)); first | exact Kd.R_mono HO_12.out (fun _ hk => ⟨hk.2, hk.1⟩) | exact Kd.R_mono HO_12.out (fun _ hk => ⟨(by first | exact hk.2 | exact fun e_ => hk.2 (e_.trans (own_len _ _ _ _ _))), (by first | exact hk.1 | exact fun e_ => hk.1 (e_.trans (own_len _ _ _ _ _)))⟩)⟩, ⟨by (with_reducible repeat (first | apply Kd.R_alloc | apply Kd.R_drewN | apply Kd.R_drew)); exact HO_13.out⟩, ⟨by (with_reducible repeat (first | apply Kd.R_alloc | apply Kd.R_drewN | apply Kd.R_drew)); first | exact HO_14.out | exact Kd.R_mono HO_14.out (fun _ hk => ⟨(by first | exact hk.1 | exact fun e_ => hk.1 (e_.trans (own_len _ _ _ _ _))), (by first | exact hk.2 | exact fun e_ => hk.2 (e_.trans (own_len _ _ _ _ _)))⟩)⟩, ⟨by (with_reducible repeat (first | apply Kd.R_alloc | apply Kd.R_drewN | apply Kd.R_drew)); first | exact HO_15.out | exact Kd.R_mono HO_15.out (fun _ hk => ⟨(by first | exact hk.1 | exact fun e_ => hk.1 (e_.trans (own_len _ _ _ _ _))), (by first | exact hk.2 | exact fun e_ => hk.2 (e_.trans (own_len _ _ _ _ _)))⟩)⟩, ⟨by (with_reducible repeat (first | apply Kd.R_alloc | apply Kd.R_drewN | apply Kd.R_drew)); first | exact HO_16.out | exact Kd.R_mono HO_16.out (fun _ hk => ⟨(by first | exact hk.1 | exact fun e_ => hk.1 (e_.trans (own_len _ _ _ _ _))), (by first | exact hk.2 | exact fun e_ => hk.2 (e_.trans (own_len _ _ _ _ _)))⟩)⟩, ⟨by (with_reducible repeat (first | apply Kd.R_alloc | apply Kd.R_drewN | apply Kd.R_drew)); first | exact HO_17.out | exact Kd.R_mono HO_17.out (fun _ hk => ⟨(by first | exact hk.1 | exact fun e_ => hk.1 (e_.trans (own_len _ _ _ _ _))), (by first | exact hk.2 | exact fun e_ => hk.2 (e_.trans (own_len _ _ _ _ _)))⟩)⟩, ⟨by repeat (first | (with_reducible first | exact HB.out | apply below_alloc | apply pw_below_drewN | apply below_drew1) | exact HB.out)⟩⟩
             ·rw [if_neg c46] at H
              have c46b0 : ((rd x14_3 x18_3) == (rd t302 x18_3)) = false := beq_eq_false_iff_ne.mpr c46
              have c46b1 : ((rd x14_3 x18_3) != (rd t302 x18_3)) = true := bne_iff_ne.mpr c46
              exact absurd H (by simp)
            ·rw [if_neg c45] at H
             exact absurd H (by simp)
           ·rw [if_neg c44] at H
            exact absurd H (by simp)
          ·rw [if_neg c43] at H
           have c43b0 : decide (x18_3 < (x14_3.length : Int)) = false := decide_eq_false c43
           clear c43
           have H' := Aside0.mk H
           clear H
           obtain ⟨Ao53, co53, eo53⟩ := Kd.R_slice HO_14.out
           subst eo53
           go_wp2
           go_loopg [19] k3 (fun kq v19 w' => ∃ (x16_4 : List (S35)) (x19_4 : Int), v19 = .int .i64 x19_4 ∧ Aside0 (endonymlaw4_TrieBlocks.l1 kq t288 a1 a2 t293 t302 t303 t311 x16_4 t317 x19_4 = some true) ∧ Aside0 (kq ≤ k3) ∧ Aside0 (Kd.R k35 35 w' w.heap.size (fun k_ => some k_ ≠ (v315 : Value).ownBlock ∧ some k_ ≠ (v318 : Value).ownBlock) (.slice Ao10 t288.length co10) t288) ∧ Aside0 (Kd.P k57 57 w' w.heap.size (fun k_ => some k_ ≠ (v304 : Value).ownBlock ∧ some k_ ≠ (v306 : Value).ownBlock ∧ some k_ ≠ (v312 : Value).ownBlock) (.pointer Ao26) t293) ∧ Aside0 (Kd.R (Kd.int .u16) 49 w' w.heap.size (fun k_ => some k_ ≠ (v312 : Value).ownBlock) v304 t302) ∧ Aside0 (Kd.R (Kd.arr 64 (Kd.int .u16) (by decide)) 50 w' w.heap.size (fun _ => True) v306 t303) ∧ Aside0 (Kd.R (Kd.int .u16) 49 w' w.heap.size (fun k_ => some k_ ≠ (v304 : Value).ownBlock) v312 t311) ∧ Aside0 (Kd.R k35 35 w' w.heap.size (fun k_ => some k_ ≠ ((.slice Ao10 t288.length co10) : Value).ownBlock ∧ some k_ ≠ (v318 : Value).ownBlock) v315 x16_4) ∧ Aside0 (Kd.R k35 35 w' w.heap.size (fun k_ => some k_ ≠ ((.slice Ao10 t288.length co10) : Value).ownBlock ∧ some k_ ≠ (v315 : Value).ownBlock) v318 t317) ∧ Aside0 (Below w.heap.size w w'))
           case atStart => exact ⟨(t314), (0), (by first | rfl | (simp; done) | (simp [*]; done)), H', ⟨Nat.le_refl _⟩, ⟨by (with_reducible repeat (first | apply Kd.R_alloc | apply Kd.R_drewN | apply Kd.R_drew)); first | exact HO_0.out | exact Kd.R_mono HO_0.out (fun _ hk => ⟨(by first | exact hk.1 | exact fun e_ => hk.1 (e_.trans (own_len _ _ _ _ _))), (by first | exact hk.2 | exact fun e_ => hk.2 (e_.trans (own_len _ _ _ _ _)))⟩)⟩, ⟨by (with_reducible repeat (first | apply Kd.P_alloc | apply Kd.P_drewN | apply Kd.P_drew)); first | exact Kd.P_mono HO_7.out (fun _ hk => ⟨hk.1, ⟨hk.2.1, hk.2.2.2⟩⟩) | exact Kd.P_mono HO_7.out (fun _ hk => ⟨(by first | exact hk.1 | exact fun e_ => hk.1 (e_.trans (own_len _ _ _ _ _))), ⟨(by first | exact hk.2.1 | exact fun e_ => hk.2.1 (e_.trans (own_len _ _ _ _ _))), (by first | exact hk.2.2.2 | exact fun e_ => hk.2.2.2 (e_.trans (own_len _ _ _ _ _)))⟩⟩)⟩, ⟨by (with_reducible repeat (first | apply Kd.R_alloc | apply Kd.R_drewN | apply Kd.R_drew)); first | exact Kd.R_mono HO_12.out (fun _ hk => hk.2) | exact Kd.R_mono HO_12.out (fun _ hk => (by first | exact hk.2 | exact fun e_ => hk.2 (e_.trans (own_len _ _ _ _ _))))⟩, ⟨by (with_reducible repeat (first | apply Kd.R_alloc | apply Kd.R_drewN | apply Kd.R_drew)); exact HO_13.out⟩, ⟨by (with_reducible repeat (first | apply Kd.R_alloc | apply Kd.R_drewN | apply Kd.R_drew)); first | exact Kd.R_mono HO_15.out (fun _ hk => hk.1) | exact Kd.R_mono HO_15.out (fun _ hk => (by first | exact hk.1 | exact fun e_ => hk.1 (e_.trans (own_len _ _ _ _ _))))⟩, ⟨by (with_reducible repeat (first | apply Kd.R_alloc | apply Kd.R_drewN | apply Kd.R_drew)); first | exact HO_16.out | exact Kd.R_mono HO_16.out (fun _ hk => ⟨(by first | exact hk.1 | exact fun e_ => hk.1 (e_.trans (own_len _ _ _ _ _))), (by first | exact hk.2 | exact fun e_ => hk.2 (e_.trans (own_len _ _ _ _ _)))⟩)⟩, ⟨by (with_reducible repeat (first | apply Kd.R_alloc | apply Kd.R_drewN | apply Kd.R_drew)); first | exact HO_17.out | exact Kd.R_mono HO_17.out (fun _ hk => ⟨(by first | exact hk.1 | exact fun e_ => hk.1 (e_.trans (own_len _ _ _ _ _))), (by first | exact hk.2 | exact fun e_ => hk.2 (e_.trans (own_len _ _ _ _ _)))⟩)⟩, ⟨by repeat (first | (with_reducible first | exact HB.out | apply below_alloc | apply pw_below_drewN | apply below_drew1) | exact HB.out)⟩⟩
           case round =>
            clear H'
            (try clear c1); (try clear c2); (try clear p2); (try clear c3); (try clear p3); (try clear q3); (try clear hx3); (try clear c4); (try clear p4); (try clear q4); (try clear hx4); (try clear hf4); (try clear c5); (try clear p6); (try clear c7); (try clear c7b0); (try clear c7b1); (try clear c8); (try clear c9); (try clear c10); (try clear c11); (try clear c14); (try clear c18); (try clear c19); (try clear c20); (try clear c31); (try clear c31b0); (try clear c31b1); (try clear c31b2); (try clear p32); (try clear q32); (try clear hx32); (try clear c33); (try clear c33b0); (try clear c33b1); (try clear c42); (try clear c43); (try clear c43b0); (try clear c44); (try clear c44b0); (try clear c45); (try clear c45b0); (try clear c46); (try clear c46b0); (try clear c46b1); (try clear p47); (try clear q47); (try clear hx47); (try clear hf47); (try clear hx325_0); (try clear hx326_0); (try clear hx47_0); (try clear p2); (try clear p325); (try clear p326); (try clear p47); (try clear q325); (try clear q326); (try clear q47)
            obtain ⟨x16_4, x19_4, rfl, HA, HK4, HO_0, HO_7, HO_12, HO_13, HO_15, HO_16, HO_17, HB⟩ := hrel
            cases gk with
            | zero => exact absurd HA.out (by simp [endonymlaw4_TrieBlocks.l1])
            | succ k4 =>
             have H := HA.out
             clear HA
             simp only [endonymlaw4_TrieBlocks.l1] at H
             by_cases c54 : x19_4 < (x16_4.length : Int)
             ·rw [if_pos c54] at H
              have c54b0 : decide (x19_4 < (x16_4.length : Int)) = true := decide_eq_true c54
              clear c54
              by_cases c55 : 0 ≤ x19_4
              ·rw [if_pos c55] at H
               have c55b0 : decide (0 ≤ x19_4) = true := decide_eq_true c55
               clear c55
               obtain ⟨y328, hy328⟩ : ∃ y_ : List (S35), y_ = (x16_4.set (x19_4 : Int).toNat (⟨0, 0, 0⟩ : S35)) := ⟨_, rfl⟩
               replace H : (endonymlaw4_TrieBlocks.l1 k4 t288 a1 a2 t293 t302 t303 t311 y328 t317 (wrap64 (x19_4 + 1))) = some true := by first | (rw [hy328]; with_reducible exact H) | (have H2_ := (Option.bind_some _ _).symm.trans H; rw [hy328]; with_reducible exact H2_) | (have H2_ := (Option.bind_some _ _).symm.trans H; with_reducible exact H2_) | with_reducible exact H | (rw [hy328]; exact H) | exact H
               have Ny328 := Aside0.mk hy328
               clear hy328
               have H' := Aside0.mk H
               clear H
               obtain ⟨Ao57, co57, eo57⟩ := Kd.R_slice HO_16.out
               subst eo57
               have p56 : 0 ≤ (x19_4 : Int) := of_decide_eq_true (by first | (with_reducible assumption) | assumption)
               have q56 : (x19_4 : Int) < ((x16_4.length : Int) : Int) := of_decide_eq_true (by first | (with_reducible assumption) | assumption)
               obtain ⟨go56, co56, eo56, gb56, gl56, cl56, HG56⟩ := Kd.R_form HO_16.out (by omega)
               (first | cases eo56 | (injection eo56 with ea_ en_ ec_; (first | subst ea_ | (injection ea_ with ea_; subst ea_)); subst ec_; clear en_))
               have GB56 := Aside0.mk gb56
               have GG56 := Aside0.mk HG56
               clear gb56 gl56 HG56
               obtain ⟨ce56, hcl56, hM56, hcc56, hfr56⟩ := Kd.R_elem HO_16.out z35 (x19_4 : Int) p56 q56
               obtain rfl := k35_openM hM56
               have hx56_0 : wr.cell? ⟨go56, (x19_4 : Int).toNat * 3, none⟩ = some (.int .i64 ((rd_T35 x16_4 x19_4).f0)) := hcc56 0 _ rfl
               have hx56_1 : wr.cell? ⟨go56, (x19_4 : Int).toNat * 3 + 1, none⟩ = some (.int .i64 ((rd_T35 x16_4 x19_4).f1)) := hcc56 1 _ rfl
               have hx56_2 : wr.cell? ⟨go56, (x19_4 : Int).toNat * 3 + 2, none⟩ = some (.int .i64 ((rd_T35 x16_4 x19_4).f2)) := hcc56 2 _ rfl
               have hf56_0 : wr.frozen? ⟨go56, (x19_4 : Int).toNat * 3, none⟩ = false := hfr56 0
               have hf56_1 : wr.frozen? ⟨go56, (x19_4 : Int).toNat * 3 + 1, none⟩ = false := hfr56 1
               have hf56_2 : wr.frozen? ⟨go56, (x19_4 : Int).toNat * 3 + 2, none⟩ = false := hfr56 2
               clear hcl56 hcc56 hfr56 hM56; replace p56 := eq_true p56; replace q56 := eq_true q56
               have HX58 := Aside0.mk (show Kd.R k35 35 wr w.heap.size (fun k_ => some k_ ≠ (.slice Ao10 t288.length co10 : Value).ownBlock ∧ some k_ ≠ (v318 : Value).ownBlock) (.slice (some ⟨go56, 0, none⟩) x16_4.length co57) x16_4 from (by (with_reducible repeat (first | apply Kd.R_alloc | apply Kd.R_drewN | apply Kd.R_drew)); first | exact HO_16.out | exact Kd.R_mono HO_16.out (fun _ hk => ⟨(by first | exact hk.1 | exact fun e_ => hk.1 (e_.trans (own_len _ _ _ _ _))), (by first | exact hk.2 | exact fun e_ => hk.2 (e_.trans (own_len _ _ _ _ _)))⟩)))
               obtain ⟨ce58, hcl58, hM58, hcc58, hfr58⟩ := Kd.R_elem HX58.out z35 (x19_4 : Int) (of_decide_eq_true (by first | (with_reducible assumption) | assumption)) (by have h_ : (x19_4 : Int) < ((x16_4.length : Int) : Int) := of_decide_eq_true (by first | (with_reducible assumption) | assumption); first | exact h_ | (have e_ := (Kd.R_reads' HO_16.out).1; omega) | simpa using h_)
               obtain rfl := k35_openM hM58
               have HP58 := Kd.R_seg HX58.out (x19_4 : Int) (of_decide_eq_true (by first | (with_reducible assumption) | assumption)) (by have h_ : (x19_4 : Int) < ((x16_4.length : Int) : Int) := of_decide_eq_true (by first | (with_reducible assumption) | assumption); first | exact h_ | (have e_ := (Kd.R_reads' HO_16.out).1; omega) | simpa using h_) (seg := [.int .i64 0, .int .i64 0, .int .i64 0]) (j := 0) hcl58 hcc58 (show 3 ≤ 3 from by decide) (x' := (⟨0, 0, 0⟩ : S35)) (k35_mkM _ _ _ (⟨0, 0, 0⟩ : S35) ) (fun _ hk => hk)
               have hx58_0 := hcc58 0 _ rfl
               (try simp only [show (k35).sz = 3 from rfl, Nat.mul_one, Nat.add_zero] at hx58_0)
               have hf58_0 := hfr58 0
               (try simp only [show (k35).sz = 3 from rfl, Nat.mul_one, Nat.add_zero] at hf58_0)
               have hx58_1 := hcc58 1 _ rfl
               (try simp only [show (k35).sz = 3 from rfl, Nat.mul_one, Nat.add_zero] at hx58_1)
               have hf58_1 := hfr58 1
               (try simp only [show (k35).sz = 3 from rfl, Nat.mul_one, Nat.add_zero] at hf58_1)
               have hx58_2 := hcc58 2 _ rfl
               (try simp only [show (k35).sz = 3 from rfl, Nat.mul_one, Nat.add_zero] at hx58_2)
               have hf58_2 := hfr58 2
               (try simp only [show (k35).sz = 3 from rfl, Nat.mul_one, Nat.add_zero] at hf58_2)
               clear hcl58 hcc58 hfr58 hM58
               go_wp2_with (first | ((with_reducible refine gate_store (t := 35) (p := 118) rfl ?_); refine store_event (t := 35) (p := 118) (v := ?vo_w59) (w1 := (((wr.setCell ⟨go56, (x19_4 : Int).toNat * 3, none⟩ (.int .i64 0)).setCell ⟨go56, (x19_4 : Int).toNat * 3 + 1, none⟩ (.int .i64 0)).setCell ⟨go56, (x19_4 : Int).toNat * 3 + 2, none⟩ (.int .i64 0))) ?hg ?ho ?hn ?hr ?_; (case ho => rfl); (case hg => rfl); (case hn => rfl); (case hr => first | (go_simp; done) | (go_simp; rfl)); intro w59 hw; have hg : wr.grownBy w59 (some go56) := (by rw [hw]; exact HP58.2); have hp_ : Kd.R k35 35 w59 w.heap.size (fun k_ => some k_ ≠ (.slice Ao10 t288.length co10 : Value).ownBlock ∧ some k_ ≠ (v318 : Value).ownBlock) (.slice (some ⟨go56, 0, none⟩) x16_4.length co57) y328 := (by rw [hw, Ny328.out]; exact HP58.1); clear HP58; have n0_ := Aside0.mk (Kd.R_after (v := (.slice (some ⟨go56, 0, none⟩) x16_4.length co57)) (v1 := (.slice (some ⟨go56, 0, none⟩) x16_4.length co57)) (ok := (fun k_ => some k_ ≠ (v318 : Value).ownBlock)) (by (with_reducible repeat (first | apply Kd.R_alloc | apply Kd.R_drewN | apply Kd.R_drew)); first | exact Kd.R_mono HO_0.out (fun _ hk => ⟨hk.2, hk.1⟩) | exact Kd.R_mono HO_0.out (fun _ hk => ⟨(by first | exact hk.2 | exact fun e_ => hk.2 (e_.trans (own_len _ _ _ _ _))), (by first | exact hk.1 | exact fun e_ => hk.1 (e_.trans (own_len _ _ _ _ _)))⟩)) hg (.inl rfl)); have n1_ := Aside0.mk (Kd.P_over' (v := (.slice (some ⟨go56, 0, none⟩) x16_4.length co57)) (by (with_reducible repeat (first | apply Kd.P_alloc | apply Kd.P_drewN | apply Kd.P_drew)); first | exact HO_7.out | exact Kd.P_mono HO_7.out (fun _ hk => ⟨(by first | exact hk.1 | exact fun e_ => hk.1 (e_.trans (own_len _ _ _ _ _))), ⟨(by first | exact hk.2.1 | exact fun e_ => hk.2.1 (e_.trans (own_len _ _ _ _ _))), (by first | exact hk.2.2 | exact fun e_ => hk.2.2 (e_.trans (own_len _ _ _ _ _)))⟩⟩)) (Kd.R_typed HO_16.out) (by decide) hg); have n2_ := Aside0.mk (Kd.R_over' (v := (.slice (some ⟨go56, 0, none⟩) x16_4.length co57)) (by (with_reducible repeat (first | apply Kd.R_alloc | apply Kd.R_drewN | apply Kd.R_drew)); first | exact HO_12.out | exact Kd.R_mono HO_12.out (fun _ hk => (by first | exact hk | exact fun e_ => hk (e_.trans (own_len _ _ _ _ _))))) (Kd.R_typed HO_16.out) (by decide) hg); have n3_ := Aside0.mk (Kd.R_over' (v := (.slice (some ⟨go56, 0, none⟩) x16_4.length co57)) (by (with_reducible repeat (first | apply Kd.R_alloc | apply Kd.R_drewN | apply Kd.R_drew)); exact HO_13.out) (Kd.R_typed HO_16.out) (by decide) hg); have n4_ := Aside0.mk (Kd.R_over' (v := (.slice (some ⟨go56, 0, none⟩) x16_4.length co57)) (by (with_reducible repeat (first | apply Kd.R_alloc | apply Kd.R_drewN | apply Kd.R_drew)); first | exact HO_15.out | exact Kd.R_mono HO_15.out (fun _ hk => (by first | exact hk | exact fun e_ => hk (e_.trans (own_len _ _ _ _ _))))) (Kd.R_typed HO_16.out) (by decide) hg); have n5_ := Aside0.mk (hp_); have n6_ := Aside0.mk (Kd.R_after (v := (.slice (some ⟨go56, 0, none⟩) x16_4.length co57)) (v1 := (.slice (some ⟨go56, 0, none⟩) x16_4.length co57)) (ok := (fun k_ => some k_ ≠ (.slice Ao10 t288.length co10 : Value).ownBlock)) (by (with_reducible repeat (first | apply Kd.R_alloc | apply Kd.R_drewN | apply Kd.R_drew)); first | exact HO_17.out | exact Kd.R_mono HO_17.out (fun _ hk => ⟨(by first | exact hk.1 | exact fun e_ => hk.1 (e_.trans (own_len _ _ _ _ _))), (by first | exact hk.2 | exact fun e_ => hk.2 (e_.trans (own_len _ _ _ _ _)))⟩)) hg (.inl rfl)); have n7_ := Aside0.mk ((by rw [hw]; exact below_set (below_set (below_set (HB.out) GB56.out) GB56.out) GB56.out : Below w.heap.size w w59)); clear HO_0; clear HO_7; clear HO_12; clear HO_13; clear HO_15; clear HO_16; clear HO_17; clear HB; have HO_0 := n0_; have HO_7 := n1_; have HO_12 := n2_; have HO_13 := n3_; have HO_15 := n4_; have HO_16 := n5_; have HO_17 := n6_; have HB := n7_; clear n0_ n1_ n2_ n3_ n4_ n5_ n6_ n7_; clear hg hw hp_))
               go_roundg k4
               case measure => have := HJ7.out; have := HJ23.out; have := HK3.out; have := HK4.out; omega
               case rel => exact ⟨(y328), (wrap64 (x19_4 + 1)), (by first | rfl | (simp; done) | (simp [*]; done)), H', ⟨by have := HJ7.out; have := HJ23.out; have := HK3.out; have := HK4.out; omega⟩, ⟨by (with_reducible repeat (first | apply Kd.R_alloc | apply Kd.R_drewN | apply Kd.R_drew)); first | exact Kd.R_mono HO_0.out (fun _ hk => ⟨hk.2, hk.1⟩) | exact Kd.R_mono HO_0.out (fun _ hk => ⟨(by first | exact hk.2 | exact fun e_ => hk.2 (e_.trans (own_len _ _ _ _ _))), (by first | exact hk.1 | exact fun e_ => hk.1 (e_.trans (own_len _ _ _ _ _)))⟩)⟩, ⟨by (with_reducible repeat (first | apply Kd.P_alloc | apply Kd.P_drewN | apply Kd.P_drew)); first | exact HO_7.out | exact Kd.P_mono HO_7.out (fun _ hk => ⟨(by first | exact hk.1 | exact fun e_ => hk.1 (e_.trans (own_len _ _ _ _ _))), ⟨(by first | exact hk.2.1 | exact fun e_ => hk.2.1 (e_.trans (own_len _ _ _ _ _))), (by first | exact hk.2.2 | exact fun e_ => hk.2.2 (e_.trans (own_len _ _ _ _ _)))⟩⟩)⟩, ⟨by (with_reducible repeat (first | apply Kd.R_alloc | apply Kd.R_drewN | apply Kd.R_drew)); first | exact HO_12.out | exact Kd.R_mono HO_12.out (fun _ hk => (by first | exact hk | exact fun e_ => hk (e_.trans (own_len _ _ _ _ _))))⟩, ⟨by (with_reducible repeat (first | apply Kd.R_alloc | apply Kd.R_drewN | apply Kd.R_drew)); exact HO_13.out⟩, ⟨by (with_reducible repeat (first | apply Kd.R_alloc | apply Kd.R_drewN | apply Kd.R_drew)); first | exact HO_15.out | exact Kd.R_mono HO_15.out (fun _ hk => (by first | exact hk | exact fun e_ => hk (e_.trans (own_len _ _ _ _ _))))⟩, ⟨by (with_reducible repeat (first | apply Kd.R_alloc | apply Kd.R_drewN | apply Kd.R_drew)); first | exact HO_16.out | exact Kd.R_mono HO_16.out (fun _ hk => ⟨(by first | exact hk.1 | exact fun e_ => hk.1 (e_.trans (own_len _ _ _ _ _))), (by first | exact hk.2 | exact fun e_ => hk.2 (e_.trans (own_len _ _ _ _ _)))⟩)⟩, ⟨by (with_reducible repeat (first | apply Kd.R_alloc | apply Kd.R_drewN | apply Kd.R_drew)); first | exact HO_17.out | exact Kd.R_mono HO_17.out (fun _ hk => ⟨(by first | exact hk.1 | exact fun e_ => hk.1 (e_.trans (own_len _ _ _ _ _))), (by first | exact hk.2 | exact fun e_ => hk.2 (e_.trans (own_len _ _ _ _ _)))⟩)⟩, ⟨by repeat (first | (with_reducible first | exact HB.out | apply below_alloc | apply pw_below_drewN | apply below_drew1) | exact HB.out)⟩⟩
              ·rw [if_neg c55] at H
               exact absurd H (by simp)
             ·rw [if_neg c54] at H
              have c54b0 : decide (x19_4 < (x16_4.length : Int)) = false := decide_eq_false c54
              clear c54
              have H' := Aside0.mk H
              clear H
              obtain ⟨Ao60, co60, eo60⟩ := Kd.R_slice HO_16.out
              subst eo60
              go_wp2
              go_loopg [20] k4 (fun kq v20 w' => ∃ (x13_5 : List (List Int)) (x20_5 : Int), v20 = .int .i64 x20_5 ∧ Aside0 (endonymlaw4_TrieBlocks.l2 kq t288 a1 a2 t293 t302 x13_5 t311 t317 x20_5 = some true) ∧ Aside0 (kq ≤ k4) ∧ Aside0 (Kd.R k35 35 w' w.heap.size (fun k_ => some k_ ≠ (v318 : Value).ownBlock) (.slice Ao10 t288.length co10) t288) ∧ Aside0 (Kd.P k57 57 w' w.heap.size (fun k_ => some k_ ≠ (v304 : Value).ownBlock ∧ some k_ ≠ (v306 : Value).ownBlock ∧ some k_ ≠ (v312 : Value).ownBlock) (.pointer Ao26) t293) ∧ Aside0 (Kd.R (Kd.int .u16) 49 w' w.heap.size (fun k_ => some k_ ≠ (v312 : Value).ownBlock) v304 t302) ∧ Aside0 (Kd.R (Kd.arr 64 (Kd.int .u16) (by decide)) 50 w' w.heap.size (fun _ => True) v306 x13_5) ∧ Aside0 (Kd.R (Kd.int .u16) 49 w' w.heap.size (fun k_ => some k_ ≠ (v304 : Value).ownBlock) v312 t311) ∧ Aside0 (Kd.R k35 35 w' w.heap.size (fun k_ => some k_ ≠ ((.slice Ao10 t288.length co10) : Value).ownBlock) v318 t317) ∧ Aside0 (Below w.heap.size w w'))
              case atStart => exact ⟨(t303), (0), (by first | rfl | (simp; done) | (simp [*]; done)), H', ⟨Nat.le_refl _⟩, ⟨by (with_reducible repeat (first | apply Kd.R_alloc | apply Kd.R_drewN | apply Kd.R_drew)); first | exact Kd.R_mono HO_0.out (fun _ hk => hk.2) | exact Kd.R_mono HO_0.out (fun _ hk => (by first | exact hk.2 | exact fun e_ => hk.2 (e_.trans (own_len _ _ _ _ _))))⟩, ⟨by (with_reducible repeat (first | apply Kd.P_alloc | apply Kd.P_drewN | apply Kd.P_drew)); first | exact HO_7.out | exact Kd.P_mono HO_7.out (fun _ hk => ⟨(by first | exact hk.1 | exact fun e_ => hk.1 (e_.trans (own_len _ _ _ _ _))), ⟨(by first | exact hk.2.1 | exact fun e_ => hk.2.1 (e_.trans (own_len _ _ _ _ _))), (by first | exact hk.2.2 | exact fun e_ => hk.2.2 (e_.trans (own_len _ _ _ _ _)))⟩⟩)⟩, ⟨by (with_reducible repeat (first | apply Kd.R_alloc | apply Kd.R_drewN | apply Kd.R_drew)); first | exact HO_12.out | exact Kd.R_mono HO_12.out (fun _ hk => (by first | exact hk | exact fun e_ => hk (e_.trans (own_len _ _ _ _ _))))⟩, ⟨by (with_reducible repeat (first | apply Kd.R_alloc | apply Kd.R_drewN | apply Kd.R_drew)); exact HO_13.out⟩, ⟨by (with_reducible repeat (first | apply Kd.R_alloc | apply Kd.R_drewN | apply Kd.R_drew)); first | exact HO_15.out | exact Kd.R_mono HO_15.out (fun _ hk => (by first | exact hk | exact fun e_ => hk (e_.trans (own_len _ _ _ _ _))))⟩, ⟨by (with_reducible repeat (first | apply Kd.R_alloc | apply Kd.R_drewN | apply Kd.R_drew)); first | exact Kd.R_mono HO_17.out (fun _ hk => hk.1) | exact Kd.R_mono HO_17.out (fun _ hk => (by first | exact hk.1 | exact fun e_ => hk.1 (e_.trans (own_len _ _ _ _ _))))⟩, ⟨by repeat (first | (with_reducible first | exact HB.out | apply below_alloc | apply pw_below_drewN | apply below_drew1) | exact HB.out)⟩⟩
              case round =>
               clear H'
               (try clear c1); (try clear c2); (try clear p2); (try clear c3); (try clear p3); (try clear q3); (try clear hx3); (try clear c4); (try clear p4); (try clear q4); (try clear hx4); (try clear hf4); (try clear c5); (try clear p5); (try clear q5); (try clear hx5); (try clear hf5); (try clear p6); (try clear c7); (try clear c7b0); (try clear c7b1); (try clear c8); (try clear c9); (try clear c10); (try clear c11); (try clear c14); (try clear c18); (try clear c19); (try clear c20); (try clear c31); (try clear c31b0); (try clear c31b1); (try clear c31b2); (try clear p32); (try clear q32); (try clear hx32); (try clear c33); (try clear c33b0); (try clear c33b1); (try clear c42); (try clear c43); (try clear c43b0); (try clear c44); (try clear c44b0); (try clear c45); (try clear c45b0); (try clear c46); (try clear c46b0); (try clear c46b1); (try clear p47); (try clear q47); (try clear hx47); (try clear hf47); (try clear c54); (try clear c54b0); (try clear c55); (try clear c55b0); (try clear c56); (try clear p56); (try clear q56); (try clear hx56); (try clear hf56); (try clear c58); (try clear hx58); (try clear hf58); (try clear hx325_0); (try clear hx326_0); (try clear hx47_0); (try clear hx56_0); (try clear hx56_1); (try clear hx56_2); (try clear hx58_0); (try clear hx58_1); (try clear hx58_2); (try clear p2); (try clear p3); (try clear p32); (try clear p325); (try clear p326); (try clear p4); (try clear p47); (try clear p56); (try clear p6); (try clear q3); (try clear q32); (try clear q325); (try clear q326); (try clear q4); (try clear q47); (try clear q56)
               obtain ⟨x13_5, x20_5, rfl, HA, HK5, HO_0, HO_7, HO_12, HO_13, HO_15, HO_17, HB⟩ := hrel
               cases gk with
               | zero => exact absurd HA.out (by simp [endonymlaw4_TrieBlocks.l2])
               | succ k5 =>
                have H := HA.out
                clear HA
                simp only [endonymlaw4_TrieBlocks.l2] at H
                have HC61 := Aside0.mk H
                clear H
                go_upto_region 24 with (fail)
                go_cut [126] (fun v126 wc => ∃ (kq : Nat) (x126_60 : Bool), v126 = .bool x126_60 ∧ Aside0 (endonymlaw4_TrieBlocks.j5 kq t288 a1 a2 t293 t302 x13_5 t311 t317 x20_5 x126_60 = some true) ∧ Aside0 (kq ≤ k5) ∧ Aside0 (Kd.R k35 35 wc w.heap.size (fun k_ => some k_ ≠ (v318 : Value).ownBlock) (.slice Ao10 t288.length co10) t288) ∧ Aside0 (Kd.P k57 57 wc w.heap.size (fun k_ => some k_ ≠ (v304 : Value).ownBlock ∧ some k_ ≠ (v306 : Value).ownBlock ∧ some k_ ≠ (v312 : Value).ownBlock) (.pointer Ao26) t293) ∧ Aside0 (Kd.R (Kd.int .u16) 49 wc w.heap.size (fun k_ => some k_ ≠ (v312 : Value).ownBlock) v304 t302) ∧ Aside0 (Kd.R (Kd.arr 64 (Kd.int .u16) (by decide)) 50 wc w.heap.size (fun _ => True) v306 x13_5) ∧ Aside0 (Kd.R (Kd.int .u16) 49 wc w.heap.size (fun k_ => some k_ ≠ (v304 : Value).ownBlock) v312 t311) ∧ Aside0 (Kd.R k35 35 wc w.heap.size (fun k_ => some k_ ≠ ((.slice Ao10 t288.length co10) : Value).ownBlock) v318 t317) ∧ Aside0 (Below w.heap.size w wc))
                case first =>
                 have H := HC61.out
                 clear HC61
                 by_cases c62 : x20_5 < (x13_5.length : Int)
                 ·rw [if_pos c62] at H
                  have c62b0 : decide (x20_5 < (x13_5.length : Int)) = true := decide_eq_true c62
                  clear c62
                  (first | rw [c62b0] | (simp only [i64_w, i32_w]; rw [c62b0]) | skip)
                  have H' := Aside0.mk H
                  clear H
                  obtain ⟨Ao63, co63, eo63⟩ := Kd.R_slice HO_13.out
                  subst eo63
                  go_wp2
                  go_meet
                  case rel => exact ⟨_, (decide (x20_5 < 300)), (by first | rfl | (simp; done) | (simp [*]; done)), H', ⟨by have := HJ7.out; have := HJ23.out; have := HK3.out; have := HK4.out; have := HK5.out; first | omega | exact Nat.le_refl _⟩, ⟨by (with_reducible repeat (first | apply Kd.R_alloc | apply Kd.R_drewN | apply Kd.R_drew)); first | exact HO_0.out | exact Kd.R_mono HO_0.out (fun _ hk => (by first | exact hk | exact fun e_ => hk (e_.trans (own_len _ _ _ _ _))))⟩, ⟨by (with_reducible repeat (first | apply Kd.P_alloc | apply Kd.P_drewN | apply Kd.P_drew)); first | exact HO_7.out | exact Kd.P_mono HO_7.out (fun _ hk => ⟨(by first | exact hk.1 | exact fun e_ => hk.1 (e_.trans (own_len _ _ _ _ _))), ⟨(by first | exact hk.2.1 | exact fun e_ => hk.2.1 (e_.trans (own_len _ _ _ _ _))), (by first | exact hk.2.2 | exact fun e_ => hk.2.2 (e_.trans (own_len _ _ _ _ _)))⟩⟩)⟩, ⟨by (with_reducible repeat (first | apply Kd.R_alloc | apply Kd.R_drewN | apply Kd.R_drew)); first | exact HO_12.out | exact Kd.R_mono HO_12.out (fun _ hk => (by first | exact hk | exact fun e_ => hk (e_.trans (own_len _ _ _ _ _))))⟩, ⟨by (with_reducible repeat (first | apply Kd.R_alloc | apply Kd.R_drewN | apply Kd.R_drew)); exact HO_13.out⟩, ⟨by (with_reducible repeat (first | apply Kd.R_alloc | apply Kd.R_drewN | apply Kd.R_drew)); first | exact HO_15.out | exact Kd.R_mono HO_15.out (fun _ hk => (by first | exact hk | exact fun e_ => hk (e_.trans (own_len _ _ _ _ _))))⟩, ⟨by (with_reducible repeat (first | apply Kd.R_alloc | apply Kd.R_drewN | apply Kd.R_drew)); first | exact HO_17.out | exact Kd.R_mono HO_17.out (fun _ hk => (by first | exact hk | exact fun e_ => hk (e_.trans (own_len _ _ _ _ _))))⟩, ⟨by repeat (first | (with_reducible first | exact HB.out | apply below_alloc | apply pw_below_drewN | apply below_drew1) | exact HB.out)⟩⟩
                 ·rw [if_neg c62] at H
                  have c62b0 : decide (x20_5 < (x13_5.length : Int)) = false := decide_eq_false c62
                  clear c62
                  (first | rw [c62b0] | (simp only [i64_w, i32_w]; rw [c62b0]) | skip)
                  have H' := Aside0.mk H
                  clear H
                  obtain ⟨Ao64, co64, eo64⟩ := Kd.R_slice HO_13.out
                  subst eo64
                  go_wp2
                  go_meet
                  case rel => exact ⟨_, (false), (by first | rfl | (simp; done) | (simp [*]; done)), H', ⟨by have := HJ7.out; have := HJ23.out; have := HK3.out; have := HK4.out; have := HK5.out; first | omega | exact Nat.le_refl _⟩, ⟨by (with_reducible repeat (first | apply Kd.R_alloc | apply Kd.R_drewN | apply Kd.R_drew)); first | exact HO_0.out | exact Kd.R_mono HO_0.out (fun _ hk => (by first | exact hk | exact fun e_ => hk (e_.trans (own_len _ _ _ _ _))))⟩, ⟨by (with_reducible repeat (first | apply Kd.P_alloc | apply Kd.P_drewN | apply Kd.P_drew)); first | exact HO_7.out | exact Kd.P_mono HO_7.out (fun _ hk => ⟨(by first | exact hk.1 | exact fun e_ => hk.1 (e_.trans (own_len _ _ _ _ _))), ⟨(by first | exact hk.2.1 | exact fun e_ => hk.2.1 (e_.trans (own_len _ _ _ _ _))), (by first | exact hk.2.2 | exact fun e_ => hk.2.2 (e_.trans (own_len _ _ _ _ _)))⟩⟩)⟩, ⟨by (with_reducible repeat (first | apply Kd.R_alloc | apply Kd.R_drewN | apply Kd.R_drew)); first | exact HO_12.out | exact Kd.R_mono HO_12.out (fun _ hk => (by first | exact hk | exact fun e_ => hk (e_.trans (own_len _ _ _ _ _))))⟩, ⟨by (with_reducible repeat (first | apply Kd.R_alloc | apply Kd.R_drewN | apply Kd.R_drew)); exact HO_13.out⟩, ⟨by (with_reducible repeat (first | apply Kd.R_alloc | apply Kd.R_drewN | apply Kd.R_drew)); first | exact HO_15.out | exact Kd.R_mono HO_15.out (fun _ hk => (by first | exact hk | exact fun e_ => hk (e_.trans (own_len _ _ _ _ _))))⟩, ⟨by (with_reducible repeat (first | apply Kd.R_alloc | apply Kd.R_drewN | apply Kd.R_drew)); first | exact HO_17.out | exact Kd.R_mono HO_17.out (fun _ hk => (by first | exact hk | exact fun e_ => hk (e_.trans (own_len _ _ _ _ _))))⟩, ⟨by repeat (first | (with_reducible first | exact HB.out | apply below_alloc | apply pw_below_drewN | apply below_drew1) | exact HB.out)⟩⟩
                case rest =>
                 clear HC61
                 (try clear c1); (try clear c2); (try clear p2); (try clear c3); (try clear p3); (try clear q3); (try clear hx3); (try clear c4); (try clear p4); (try clear q4); (try clear hx4); (try clear hf4); (try clear c5); (try clear p5); (try clear q5); (try clear hx5); (try clear hf5); (try clear c6); (try clear p6); (try clear c7); (try clear c7b0); (try clear c7b1); (try clear c8); (try clear c9); (try clear c10); (try clear c11); (try clear c14); (try clear c18); (try clear c19); (try clear c20); (try clear c31); (try clear c31b0); (try clear c31b1); (try clear c31b2); (try clear p32); (try clear q32); (try clear hx32); (try clear c33); (try clear c33b0); (try clear c33b1); (try clear c42); (try clear c43); (try clear c43b0); (try clear c44); (try clear c44b0); (try clear c45); (try clear c45b0); (try clear c46); (try clear c46b0); (try clear c46b1); (try clear p47); (try clear q47); (try clear hx47); (try clear hf47); (try clear c54); (try clear c54b0); (try clear c55); (try clear c55b0); (try clear c56); (try clear p56); (try clear q56); (try clear hx56); (try clear hf56); (try clear c58); (try clear hx58); (try clear hf58); (try clear c62); (try clear c62b0); (try clear p64); (try clear hx325_0); (try clear hx326_0); (try clear hx47_0); (try clear hx56_0); (try clear hx56_1); (try clear hx56_2); (try clear hx58_0); (try clear hx58_1); (try clear hx58_2); (try clear p2); (try clear p3); (try clear p32); (try clear p325); (try clear p326); (try clear p4); (try clear p47); (try clear p5); (try clear p56); (try clear p6); (try clear q3); (try clear q32); (try clear q325); (try clear q326); (try clear q4); (try clear q47); (try clear q5); (try clear q56)
                 obtain ⟨kq, x126_60, rfl, HA, HJ60, HO_0, HO_7, HO_12, HO_13, HO_15, HO_17, HB⟩ := hcut
                 cases kq with
                 | zero => exact absurd HA.out (by simp [endonymlaw4_TrieBlocks.j5])
                 | succ kj60 =>
                  have H := HA.out
                  clear HA
                  simp only [endonymlaw4_TrieBlocks.j5] at H
                  by_cases c65 : x126_60 = true
                  ·subst c65
                   have H1 : ((trie_Trie_Block.f t293 x20_5).bind fun bt329 => (if bt329.2 = true then (if 0 ≤ x20_5 then (if x20_5 < (x13_5.length : Int) then (if ((arrEq 64 (arrPut 64 (List.replicate 64 0) bt329.1) (rd_L4 x13_5 x20_5)) = true) then (endonymlaw4_TrieBlocks.l2 kj60 t288 a1 a2 t293 t302 x13_5 t311 t317 (wrap64 (x20_5 + 1))) else (some false)) else (none)) else (none)) else (some false))) = some true := by rw [if_pos rfl] at H; exact H
                   clear H; have H := H1; clear H1
                   replace H := Option.bind_eq_some_iff.mp H
                   obtain ⟨⟨t329, t330⟩, A660, H⟩ := H
                   replace H : (if t330 = true then (if 0 ≤ x20_5 then (if x20_5 < (x13_5.length : Int) then (if ((arrEq 64 (arrPut 64 (List.replicate 64 0) t329) (rd_L4 x13_5 x20_5)) = true) then (endonymlaw4_TrieBlocks.l2 kj60 t288 a1 a2 t293 t302 x13_5 t311 t317 (wrap64 (x20_5 + 1))) else (some false)) else (none)) else (none)) else (some false)) = some true := H
                   have A66 := Aside0.mk A660
                   clear A660
                   obtain ⟨y331, hy331⟩ : ∃ y_ : List Int, y_ = (List.replicate 64 0) := ⟨_, rfl⟩
                   replace H : (if t330 = true then (if 0 ≤ x20_5 then (if x20_5 < (x13_5.length : Int) then (if ((arrEq 64 (arrPut 64 y331 t329) (rd_L4 x13_5 x20_5)) = true) then (endonymlaw4_TrieBlocks.l2 kj60 t288 a1 a2 t293 t302 x13_5 t311 t317 (wrap64 (x20_5 + 1))) else (some false)) else (none)) else (none)) else (some false)) = some true := by first | (rw [hy331]; with_reducible exact H) | (have H2_ := (Option.bind_some _ _).symm.trans H; rw [hy331]; with_reducible exact H2_) | (have H2_ := (Option.bind_some _ _).symm.trans H; with_reducible exact H2_) | with_reducible exact H | (rw [hy331]; exact H) | exact H
                   have Ny331 := Aside0.mk hy331
                   clear hy331
                   obtain ⟨y335, hy335⟩ : ∃ y_ : List Int, y_ = (arrPut 64 y331 t329) := ⟨_, rfl⟩
                   replace H : (if t330 = true then (if 0 ≤ x20_5 then (if x20_5 < (x13_5.length : Int) then (if ((arrEq 64 y335 (rd_L4 x13_5 x20_5)) = true) then (endonymlaw4_TrieBlocks.l2 kj60 t288 a1 a2 t293 t302 x13_5 t311 t317 (wrap64 (x20_5 + 1))) else (some false)) else (none)) else (none)) else (some false)) = some true := by first | (rw [hy335]; with_reducible exact H) | (have H2_ := (Option.bind_some _ _).symm.trans H; rw [hy335]; with_reducible exact H2_) | (have H2_ := (Option.bind_some _ _).symm.trans H; with_reducible exact H2_) | with_reducible exact H | (rw [hy335]; exact H) | exact H
                   have Ny335 := Aside0.mk hy335
                   clear hy335
                   by_cases c67 : t330 = true
                   ·subst c67
                    have H1 : (if 0 ≤ x20_5 then (if x20_5 < (x13_5.length : Int) then (if ((arrEq 64 y335 (rd_L4 x13_5 x20_5)) = true) then (endonymlaw4_TrieBlocks.l2 kj60 t288 a1 a2 t293 t302 x13_5 t311 t317 (wrap64 (x20_5 + 1))) else (some false)) else (none)) else (none)) = some true := by rw [if_pos rfl] at H; exact H
                    clear H; have H := H1; clear H1
                    by_cases c68 : 0 ≤ x20_5
                    ·rw [if_pos c68] at H
                     have c68b0 : decide (0 ≤ x20_5) = true := decide_eq_true c68
                     clear c68
                     by_cases c69 : x20_5 < (x13_5.length : Int)
                     ·rw [if_pos c69] at H
                      have c69b0 : decide (x20_5 < (x13_5.length : Int)) = true := decide_eq_true c69
                      clear c69
                      by_cases c70 : ((arrEq 64 y335 (rd_L4 x13_5 x20_5)) = true)
                      ·rw [if_pos c70] at H
                       have c70b0 : (arrEq 64 y335 (rd_L4 x13_5 x20_5)) = true := c70
                       clear c70
                       have H' := Aside0.mk H
                       clear H
                       try go_wp2_with (first | ((with_reducible refine gate_callee (f := 22) rfl ?_); refine goesL_ (some 132) rfl rfl Try.func22 (by kernel_rfl) rfl #[.pointer Ao26, .int .i64 x20_5] rfl (by (try simp only [List.map_toArray, List.map_cons, List.map_nil]); first | done | rfl | (simp only [List.length_drop, List.length_take]; rfl)) ?_; (with_reducible refine (trie_Trie_Block.calls _ t293 x20_5 t329 true _ ?side1 A66.out).mono ?_); (case side1 => repeat (first | exact (Kd.P_reads' HO_7.out).2.2 | (with_reducible refine Kd.PC_alloc ?_ _) | (with_reducible refine Kd.PC_drewN ?_ _) | (with_reducible refine Kd.PC_drew ?_))); rintro e w71 ⟨rfl, hb⟩; refine ⟨_, rfl, ?_⟩; have n0_ := Aside0.mk (Kd.R_below (by (with_reducible repeat (first | apply Kd.R_alloc | apply Kd.R_drewN | apply Kd.R_drew)); first | exact HO_0.out | exact Kd.R_mono HO_0.out (fun _ hk => (by first | exact hk | exact fun e_ => hk (e_.trans (own_len _ _ _ _ _))))) hb); have n1_ := Aside0.mk (Kd.P_below (by (with_reducible repeat (first | apply Kd.P_alloc | apply Kd.P_drewN | apply Kd.P_drew)); first | exact HO_7.out | exact Kd.P_mono HO_7.out (fun _ hk => ⟨(by first | exact hk.1 | exact fun e_ => hk.1 (e_.trans (own_len _ _ _ _ _))), ⟨(by first | exact hk.2.1 | exact fun e_ => hk.2.1 (e_.trans (own_len _ _ _ _ _))), (by first | exact hk.2.2 | exact fun e_ => hk.2.2 (e_.trans (own_len _ _ _ _ _)))⟩⟩)) hb); have n2_ := Aside0.mk (Kd.R_below (by (with_reducible repeat (first | apply Kd.R_alloc | apply Kd.R_drewN | apply Kd.R_drew)); first | exact HO_12.out | exact Kd.R_mono HO_12.out (fun _ hk => (by first | exact hk | exact fun e_ => hk (e_.trans (own_len _ _ _ _ _))))) hb); have n3_ := Aside0.mk (Kd.R_below (by (with_reducible repeat (first | apply Kd.R_alloc | apply Kd.R_drewN | apply Kd.R_drew)); exact HO_13.out) hb); have n4_ := Aside0.mk (Kd.R_below (by (with_reducible repeat (first | apply Kd.R_alloc | apply Kd.R_drewN | apply Kd.R_drew)); first | exact HO_15.out | exact Kd.R_mono HO_15.out (fun _ hk => (by first | exact hk | exact fun e_ => hk (e_.trans (own_len _ _ _ _ _))))) hb); have n5_ := Aside0.mk (Kd.R_below (by (with_reducible repeat (first | apply Kd.R_alloc | apply Kd.R_drewN | apply Kd.R_drew)); first | exact HO_17.out | exact Kd.R_mono HO_17.out (fun _ hk => (by first | exact hk | exact fun e_ => hk (e_.trans (own_len _ _ _ _ _))))) hb); have n6_ := Aside0.mk (below_step (by repeat (first | (with_reducible first | exact HB.out | apply below_alloc | apply pw_below_drewN | apply below_drew1) | exact HB.out)) hb); clear HO_0; clear HO_7; clear HO_12; clear HO_13; clear HO_15; clear HO_17; clear HB; have HO_0 := n0_; have HO_7 := n1_; have HO_12 := n2_; have HO_13 := n3_; have HO_15 := n4_; have HO_17 := n5_; have HB := n6_; clear n0_ n1_ n2_ n3_ n4_ n5_ n6_; (try clear hb); (try clear hb2); (try clear hk); (try clear hi)) | ((with_reducible refine gate_dst (N := 21) rfl ?_); (try (refine gate_guard (by rfl) ?_; dsimp only)); refine arrvar_event (k := .u16) (n := 64) (t := 50) rfl (N := 21) rfl rfl (by kernel_rfl) (by decide) (Below.refl _ _) ?_; intro goa334 w72 ho73 hb hg_ gb_; have GBa334 := Aside0.mk (Nat.le_trans (below_size (by repeat (first | (with_reducible first | exact HB.out | apply below_alloc | apply pw_below_drewN | apply below_drew1) | exact HB.out))) gb_); clear hg_ gb_; (first | rw [← Ny331.out] at ho73 | (simp only [Int.reduceToNat] at ho73; rw [← Ny331.out] at ho73)); have n0_ := Aside0.mk (Kd.R_below (by (with_reducible repeat (first | apply Kd.R_alloc | apply Kd.R_drewN | apply Kd.R_drew)); first | exact HO_0.out | exact Kd.R_mono HO_0.out (fun _ hk => (by first | exact hk | exact fun e_ => hk (e_.trans (own_len _ _ _ _ _))))) hb); have n1_ := Aside0.mk (Kd.P_elder' (by (with_reducible repeat (first | apply Kd.P_alloc | apply Kd.P_drewN | apply Kd.P_drew)); first | exact HO_7.out | exact Kd.P_mono HO_7.out (fun _ hk => ⟨(by first | exact hk.1 | exact fun e_ => hk.1 (e_.trans (own_len _ _ _ _ _))), ⟨(by first | exact hk.2.1 | exact fun e_ => hk.2.1 (e_.trans (own_len _ _ _ _ _))), (by first | exact hk.2.2 | exact fun e_ => hk.2.2 (e_.trans (own_len _ _ _ _ _)))⟩⟩)) (Kd.R_base ho73) hb); have n2_ := Aside0.mk (Kd.R_below (by (with_reducible repeat (first | apply Kd.R_alloc | apply Kd.R_drewN | apply Kd.R_drew)); first | exact HO_12.out | exact Kd.R_mono HO_12.out (fun _ hk => (by first | exact hk | exact fun e_ => hk (e_.trans (own_len _ _ _ _ _))))) hb); have n3_ := Aside0.mk (Kd.R_elder' (by (with_reducible repeat (first | apply Kd.R_alloc | apply Kd.R_drewN | apply Kd.R_drew)); exact HO_13.out) (Kd.R_base ho73) hb); have n4_ := Aside0.mk (Kd.R_below (by (with_reducible repeat (first | apply Kd.R_alloc | apply Kd.R_drewN | apply Kd.R_drew)); first | exact HO_15.out | exact Kd.R_mono HO_15.out (fun _ hk => (by first | exact hk | exact fun e_ => hk (e_.trans (own_len _ _ _ _ _))))) hb); have n5_ := Aside0.mk (Kd.R_below (by (with_reducible repeat (first | apply Kd.R_alloc | apply Kd.R_drewN | apply Kd.R_drew)); first | exact HO_17.out | exact Kd.R_mono HO_17.out (fun _ hk => (by first | exact hk | exact fun e_ => hk (e_.trans (own_len _ _ _ _ _))))) hb); have n6_ := Aside0.mk (Kd.R_lower (Kd.R_new' ho73 (Kd.R_lt (by (with_reducible repeat (first | apply Kd.R_alloc | apply Kd.R_drewN | apply Kd.R_drew)); exact HO_13.out))) (below_size (by repeat (first | (with_reducible first | exact HB.out | apply below_alloc | apply pw_below_drewN | apply below_drew1) | exact HB.out)))); have n7_ := Aside0.mk (below_step (by repeat (first | (with_reducible first | exact HB.out | apply below_alloc | apply pw_below_drewN | apply below_drew1) | exact HB.out)) hb); clear HO_0; clear HO_7; clear HO_12; clear HO_13; clear HO_15; clear HO_17; clear HB; have HO_0 := n0_; have HO_7 := n1_; have HO_12 := n2_; have HO_13 := n3_; have HO_15 := n4_; have HO_17 := n5_; have HO333 := n6_; have HB := n7_; clear n0_ n1_ n2_ n3_ n4_ n5_ n6_ n7_; clear hb ho73; have n_ := Aside0.mk (Kd.R_mono (ok' := (fun k_ => some k_ ≠ (v306 : Value).ownBlock)) HO333.out (fun k_ hk => hk.2)); clear HO333; have HO333 := n_; clear n_) | ((with_reducible refine gate_store (t := 50) (p := 21) rfl ?_); refine arrput_event (k := .u16) (n := 64) (ys := t329) rfl rfl rfl rfl rfl (by kernel_rfl) HO333.out ?_; intro w75 hp0_ hg hbl_; have hp_ : Kd.R (Kd.int .u16) 50 w75 w.heap.size (fun k_ => some k_ ≠ (v306 : Value).ownBlock) (.slice (some ⟨goa334, 0, none⟩) 64 64) y335 := (by rw [Ny335.out]; exact hp0_); have n0_ := Aside0.mk (Kd.R_over' (v := (.slice (some ⟨goa334, 0, none⟩) 64 64)) (by (with_reducible repeat (first | apply Kd.R_alloc | apply Kd.R_drewN | apply Kd.R_drew)); first | exact HO_0.out | exact Kd.R_mono HO_0.out (fun _ hk => (by first | exact hk | exact fun e_ => hk (e_.trans (own_len _ _ _ _ _))))) (Kd.R_typed HO333.out) (by decide) hg); have n1_ := Aside0.mk (Kd.P_after (v := (.slice (some ⟨goa334, 0, none⟩) 64 64)) (v1 := (.slice (some ⟨goa334, 0, none⟩) 64 64)) (ok := (fun k_ => some k_ ≠ (v304 : Value).ownBlock ∧ some k_ ≠ (v306 : Value).ownBlock ∧ some k_ ≠ (v312 : Value).ownBlock)) (by (with_reducible repeat (first | apply Kd.P_alloc | apply Kd.P_drewN | apply Kd.P_drew)); first | exact HO_7.out | exact Kd.P_mono HO_7.out (fun _ hk => ⟨⟨(by first | exact hk.1.1 | exact fun e_ => hk.1.1 (e_.trans (own_len _ _ _ _ _))), ⟨(by first | exact hk.1.2.1 | exact fun e_ => hk.1.2.1 (e_.trans (own_len _ _ _ _ _))), (by first | exact hk.1.2.2 | exact fun e_ => hk.1.2.2 (e_.trans (own_len _ _ _ _ _)))⟩⟩, (by first | exact hk.2 | exact fun e_ => hk.2 (e_.trans (own_len _ _ _ _ _)))⟩)) hg (.inl rfl)); have n2_ := Aside0.mk (Kd.R_over' (v := (.slice (some ⟨goa334, 0, none⟩) 64 64)) (by (with_reducible repeat (first | apply Kd.R_alloc | apply Kd.R_drewN | apply Kd.R_drew)); first | exact HO_12.out | exact Kd.R_mono HO_12.out (fun _ hk => (by first | exact hk | exact fun e_ => hk (e_.trans (own_len _ _ _ _ _))))) (Kd.R_typed HO333.out) (by decide) hg); have n3_ := Aside0.mk (Kd.R_after (v := (.slice (some ⟨goa334, 0, none⟩) 64 64)) (v1 := (.slice (some ⟨goa334, 0, none⟩) 64 64)) (ok := (fun _ => True)) (by (with_reducible repeat (first | apply Kd.R_alloc | apply Kd.R_drewN | apply Kd.R_drew)); first | exact HO_13.out | exact Kd.R_mono HO_13.out (fun _ hk => ⟨trivial, (by first | exact hk.2 | exact fun e_ => hk.2 (e_.trans (own_len _ _ _ _ _)))⟩)) hg (.inl rfl)); have n4_ := Aside0.mk (Kd.R_over' (v := (.slice (some ⟨goa334, 0, none⟩) 64 64)) (by (with_reducible repeat (first | apply Kd.R_alloc | apply Kd.R_drewN | apply Kd.R_drew)); first | exact HO_15.out | exact Kd.R_mono HO_15.out (fun _ hk => (by first | exact hk | exact fun e_ => hk (e_.trans (own_len _ _ _ _ _))))) (Kd.R_typed HO333.out) (by decide) hg); have n5_ := Aside0.mk (Kd.R_over' (v := (.slice (some ⟨goa334, 0, none⟩) 64 64)) (by (with_reducible repeat (first | apply Kd.R_alloc | apply Kd.R_drewN | apply Kd.R_drew)); first | exact HO_17.out | exact Kd.R_mono HO_17.out (fun _ hk => (by first | exact hk | exact fun e_ => hk (e_.trans (own_len _ _ _ _ _))))) (Kd.R_typed HO333.out) (by decide) hg); have n6_ := Aside0.mk (hp_); have n7_ := Aside0.mk (hbl_ _ _ HB.out GBa334.out); clear HO_0; clear HO_7; clear HO_12; clear HO_13; clear HO_15; clear HO_17; clear HO333; clear HB; have HO_0 := n0_; have HO_7 := n1_; have HO_12 := n2_; have HO_13 := n3_; have HO_15 := n4_; have HO_17 := n5_; have HO333 := n6_; have HB := n7_; clear n0_ n1_ n2_ n3_ n4_ n5_ n6_ n7_; clear hg hp_ hp0_ hbl_; have hap76 := R_arr_at (k := .u16) HO333.out; obtain ⟨Ao77, co77, eo77⟩ := Kd.R_slice HO_13.out; subst eo77; have p336 : 0 ≤ (x20_5 : Int) := of_decide_eq_true (by first | (with_reducible assumption) | assumption); have q336 : x20_5 < (x13_5.length : Int) := of_decide_eq_true (by first | (with_reducible assumption) | assumption); obtain ⟨ad336, e336, hx336_0⟩ := at_L4 (Kd.R_reads' HO_13.out).2.2 x20_5 p336 q336; cases e336; replace p336 := eq_true p336; replace q336 := eq_true q336) | ((first | refine wpList_load_arr rfl _ rfl rfl hap76 Try.underlying50 (by kernel_rfl) ?_ | refine wpList_load_arr_on _ rfl rfl hap76 Try.underlying50 (by kernel_rfl) (by rfl) ?_); (try simp only [Act.put, List.setIfInBounds_toArray, List.set_cons_zero, List.set_cons_succ])) | ((refine wpList_load_arr rfl _ rfl rfl hx336_0 Try.underlying50 (by kernel_rfl) ?_); (try simp only [Act.put, List.setIfInBounds_toArray, List.set_cons_zero, List.set_cons_succ])))
                       repeat ((refine wp_region_quiet_lit (by kernel_rfl) (by kernel_rfl) ?_; (repeat (first | go_big_quiet_skip | (go_big_quiet_want; (first | refine oquiet_load_arr _ rfl rfl hap76 Try.underlying50 (by kernel_rfl) ?_ | refine oquiet_load_arr _ rfl rfl hx336_0 Try.underlying50 (by kernel_rfl) ?_); go_big_quiet_on; simp only [Act.put, List.setIfInBounds_toArray, List.set_cons_zero, List.set_cons_succ]) | go_big_quiet_step (fail) | quiet_step (fail))); refine wpQuiet_nil ?_; intro _ hwq_; obtain ⟨nq, hwr_⟩ := hwq_; subst hwr_); try go_wp2)
                       go_roundg kj60
                       case measure => have := HJ7.out; have := HJ23.out; have := HK3.out; have := HK4.out; have := HK5.out; have := HJ60.out; omega
                       case rel => exact ⟨(x13_5), (wrap64 (x20_5 + 1)), (by first | rfl | (simp; done) | (simp [*]; done)), H', ⟨by have := HJ7.out; have := HJ23.out; have := HK3.out; have := HK4.out; have := HK5.out; have := HJ60.out; omega⟩, ⟨by (with_reducible repeat (first | apply Kd.R_alloc | apply Kd.R_drewN | apply Kd.R_drew)); first | exact HO_0.out | exact Kd.R_mono HO_0.out (fun _ hk => (by first | exact hk | exact fun e_ => hk (e_.trans (own_len _ _ _ _ _))))⟩, ⟨by (with_reducible repeat (first | apply Kd.P_alloc | apply Kd.P_drewN | apply Kd.P_drew)); first | exact Kd.P_mono HO_7.out (fun _ hk => ⟨hk.1.1, ⟨hk.1.2.1, hk.1.2.2⟩⟩) | exact Kd.P_mono HO_7.out (fun _ hk => ⟨(by first | exact hk.1.1 | exact fun e_ => hk.1.1 (e_.trans (own_len _ _ _ _ _))), ⟨(by first | exact hk.1.2.1 | exact fun e_ => hk.1.2.1 (e_.trans (own_len _ _ _ _ _))), (by first | exact hk.1.2.2 | exact fun e_ => hk.1.2.2 (e_.trans (own_len _ _ _ _ _)))⟩⟩)⟩, ⟨by (with_reducible repeat (first | apply Kd.R_alloc | apply Kd.R_drewN | apply Kd.R_drew)); first | exact HO_12.out | exact Kd.R_mono HO_12.out (fun _ hk => (by first | exact hk | exact fun e_ => hk (e_.trans (own_len _ _ _ _ _))))⟩, ⟨by (with_reducible repeat (first | apply Kd.R_alloc | apply Kd.R_drewN | apply Kd.R_drew)); exact Kd.R_mono HO_13.out (fun _ hk => trivial)⟩, ⟨by (with_reducible repeat (first | apply Kd.R_alloc | apply Kd.R_drewN | apply Kd.R_drew)); first | exact HO_15.out | exact Kd.R_mono HO_15.out (fun _ hk => (by first | exact hk | exact fun e_ => hk (e_.trans (own_len _ _ _ _ _))))⟩, ⟨by (with_reducible repeat (first | apply Kd.R_alloc | apply Kd.R_drewN | apply Kd.R_drew)); first | exact HO_17.out | exact Kd.R_mono HO_17.out (fun _ hk => (by first | exact hk | exact fun e_ => hk (e_.trans (own_len _ _ _ _ _))))⟩, ⟨by repeat (first | (with_reducible first | exact HB.out | apply below_alloc | apply pw_below_drewN | apply below_drew1) | exact HB.out)⟩⟩
                      ·rw [if_neg c70] at H
                       have c70b0 : (arrEq 64 y335 (rd_L4 x13_5 x20_5)) = false := by simpa using c70
                       clear c70
                       exact absurd H (by simp)
                     ·rw [if_neg c69] at H
                      exact absurd H (by simp)
                    ·rw [if_neg c68] at H
                     exact absurd H (by simp)
                   ·replace c67 := Bool.eq_false_iff.mpr c67
                    subst c67
                    have H1 : (some false) = some true := by rw [if_neg (show ¬ (false = true) by decide)] at H; exact H
                    clear H; have H := H1; clear H1
                    exact absurd H (by simp)
                  ·replace c65 := Bool.eq_false_iff.mpr c65
                   subst c65
                   have H1 : ((trie_Trie_Block.f t293 a2).bind fun bt337 => ((some (arrPut 64 (List.replicate 64 0) bt337.1 : List Int)).bind fun y343 => (if a2 < 0 then (if bt337.2 = true then (endonymlaw4_TrieBlocks.j6 kj60 t288 a1 t293 t302 t311 t317 true) else (endonymlaw4_TrieBlocks.j6 kj60 t288 a1 t293 t302 t311 t317 (!(arrEq 64 y343 ([] : List Int))))) else (if a2 ≥ (x13_5.length : Int) then (if bt337.2 = true then (endonymlaw4_TrieBlocks.j6 kj60 t288 a1 t293 t302 t311 t317 true) else (endonymlaw4_TrieBlocks.j6 kj60 t288 a1 t293 t302 t311 t317 (!(arrEq 64 y343 ([] : List Int))))) else (endonymlaw4_TrieBlocks.j6 kj60 t288 a1 t293 t302 t311 t317 false))))) = some true := by rw [if_neg (show ¬ (false = true) by decide)] at H; exact H
                   clear H; have H := H1; clear H1
                   replace H := Option.bind_eq_some_iff.mp H
                   obtain ⟨⟨t337, t338⟩, A780, H⟩ := H
                   replace H : ((some (arrPut 64 (List.replicate 64 0) t337 : List Int)).bind fun y343 => (if a2 < 0 then (if t338 = true then (endonymlaw4_TrieBlocks.j6 kj60 t288 a1 t293 t302 t311 t317 true) else (endonymlaw4_TrieBlocks.j6 kj60 t288 a1 t293 t302 t311 t317 (!(arrEq 64 y343 ([] : List Int))))) else (if a2 ≥ (x13_5.length : Int) then (if t338 = true then (endonymlaw4_TrieBlocks.j6 kj60 t288 a1 t293 t302 t311 t317 true) else (endonymlaw4_TrieBlocks.j6 kj60 t288 a1 t293 t302 t311 t317 (!(arrEq 64 y343 ([] : List Int))))) else (endonymlaw4_TrieBlocks.j6 kj60 t288 a1 t293 t302 t311 t317 false)))) = some true := H
                   have A78 := Aside0.mk A780
                   clear A780
                   obtain ⟨y339, hy339⟩ : ∃ y_ : List Int, y_ = (List.replicate 64 0) := ⟨_, rfl⟩
                   replace H : ((some (arrPut 64 y339 t337 : List Int)).bind fun y343 => (if a2 < 0 then (if t338 = true then (endonymlaw4_TrieBlocks.j6 kj60 t288 a1 t293 t302 t311 t317 true) else (endonymlaw4_TrieBlocks.j6 kj60 t288 a1 t293 t302 t311 t317 (!(arrEq 64 y343 ([] : List Int))))) else (if a2 ≥ (x13_5.length : Int) then (if t338 = true then (endonymlaw4_TrieBlocks.j6 kj60 t288 a1 t293 t302 t311 t317 true) else (endonymlaw4_TrieBlocks.j6 kj60 t288 a1 t293 t302 t311 t317 (!(arrEq 64 y343 ([] : List Int))))) else (endonymlaw4_TrieBlocks.j6 kj60 t288 a1 t293 t302 t311 t317 false)))) = some true := by first | (rw [hy339]; with_reducible exact H) | (have H2_ := (Option.bind_some _ _).symm.trans H; rw [hy339]; with_reducible exact H2_) | (have H2_ := (Option.bind_some _ _).symm.trans H; with_reducible exact H2_) | with_reducible exact H | (rw [hy339]; exact H) | exact H
                   have Ny339 := Aside0.mk hy339
                   clear hy339
                   obtain ⟨y343, hy343⟩ : ∃ y_ : List Int, y_ = (arrPut 64 y339 t337) := ⟨_, rfl⟩
                   replace H : (if a2 < 0 then (if t338 = true then (endonymlaw4_TrieBlocks.j6 kj60 t288 a1 t293 t302 t311 t317 true) else (endonymlaw4_TrieBlocks.j6 kj60 t288 a1 t293 t302 t311 t317 (!(arrEq 64 y343 ([] : List Int))))) else (if a2 ≥ (x13_5.length : Int) then (if t338 = true then (endonymlaw4_TrieBlocks.j6 kj60 t288 a1 t293 t302 t311 t317 true) else (endonymlaw4_TrieBlocks.j6 kj60 t288 a1 t293 t302 t311 t317 (!(arrEq 64 y343 ([] : List Int))))) else (endonymlaw4_TrieBlocks.j6 kj60 t288 a1 t293 t302 t311 t317 false))) = some true := by first | (rw [hy343]; with_reducible exact H) | (have H2_ := (Option.bind_some _ _).symm.trans H; rw [hy343]; with_reducible exact H2_) | (have H2_ := (Option.bind_some _ _).symm.trans H; with_reducible exact H2_) | with_reducible exact H | (rw [hy343]; exact H) | exact H
                   have Ny343 := Aside0.mk hy343
                   clear hy343
                   have HC79 := Aside0.mk H
                   clear H
                   go_upto_region 30 with (first | ((with_reducible refine gate_callee (f := 22) rfl ?_); refine goesL_ (some 148) rfl rfl Try.func22 (by kernel_rfl) rfl #[.pointer Ao26, .int .i64 a2] rfl (by (try simp only [List.map_toArray, List.map_cons, List.map_nil]); first | done | rfl | (simp only [List.length_drop, List.length_take]; rfl)) ?_; (with_reducible refine (trie_Trie_Block.calls _ t293 a2 t337 t338 _ ?side1 A78.out).mono ?_); (case side1 => repeat (first | exact (Kd.P_reads' HO_7.out).2.2 | (with_reducible refine Kd.PC_alloc ?_ _) | (with_reducible refine Kd.PC_drewN ?_ _) | (with_reducible refine Kd.PC_drew ?_))); rintro e w80 ⟨rfl, hb⟩; refine ⟨_, rfl, ?_⟩; have n0_ := Aside0.mk (Kd.R_below (by (with_reducible repeat (first | apply Kd.R_alloc | apply Kd.R_drewN | apply Kd.R_drew)); first | exact HO_0.out | exact Kd.R_mono HO_0.out (fun _ hk => (by first | exact hk | exact fun e_ => hk (e_.trans (own_len _ _ _ _ _))))) hb); have n1_ := Aside0.mk (Kd.P_below (by (with_reducible repeat (first | apply Kd.P_alloc | apply Kd.P_drewN | apply Kd.P_drew)); first | exact HO_7.out | exact Kd.P_mono HO_7.out (fun _ hk => ⟨(by first | exact hk.1 | exact fun e_ => hk.1 (e_.trans (own_len _ _ _ _ _))), ⟨(by first | exact hk.2.1 | exact fun e_ => hk.2.1 (e_.trans (own_len _ _ _ _ _))), (by first | exact hk.2.2 | exact fun e_ => hk.2.2 (e_.trans (own_len _ _ _ _ _)))⟩⟩)) hb); have n2_ := Aside0.mk (Kd.R_below (by (with_reducible repeat (first | apply Kd.R_alloc | apply Kd.R_drewN | apply Kd.R_drew)); first | exact HO_12.out | exact Kd.R_mono HO_12.out (fun _ hk => (by first | exact hk | exact fun e_ => hk (e_.trans (own_len _ _ _ _ _))))) hb); have n3_ := Aside0.mk (Kd.R_below (by (with_reducible repeat (first | apply Kd.R_alloc | apply Kd.R_drewN | apply Kd.R_drew)); exact HO_13.out) hb); have n4_ := Aside0.mk (Kd.R_below (by (with_reducible repeat (first | apply Kd.R_alloc | apply Kd.R_drewN | apply Kd.R_drew)); first | exact HO_15.out | exact Kd.R_mono HO_15.out (fun _ hk => (by first | exact hk | exact fun e_ => hk (e_.trans (own_len _ _ _ _ _))))) hb); have n5_ := Aside0.mk (Kd.R_below (by (with_reducible repeat (first | apply Kd.R_alloc | apply Kd.R_drewN | apply Kd.R_drew)); first | exact HO_17.out | exact Kd.R_mono HO_17.out (fun _ hk => (by first | exact hk | exact fun e_ => hk (e_.trans (own_len _ _ _ _ _))))) hb); have n6_ := Aside0.mk (below_step (by repeat (first | (with_reducible first | exact HB.out | apply below_alloc | apply pw_below_drewN | apply below_drew1) | exact HB.out)) hb); clear HO_0; clear HO_7; clear HO_12; clear HO_13; clear HO_15; clear HO_17; clear HB; have HO_0 := n0_; have HO_7 := n1_; have HO_12 := n2_; have HO_13 := n3_; have HO_15 := n4_; have HO_17 := n5_; have HB := n6_; clear n0_ n1_ n2_ n3_ n4_ n5_ n6_; (try clear hb); (try clear hb2); (try clear hk); (try clear hi)) | ((with_reducible refine gate_dst (N := 23) rfl ?_); (try (refine gate_guard (by rfl) ?_; dsimp only)); refine arrvar_event (k := .u16) (n := 64) (t := 50) rfl (N := 23) rfl rfl (by kernel_rfl) (by decide) (Below.refl _ _) ?_; intro goa342 w81 ho82 hb hg_ gb_; have GBa342 := Aside0.mk (Nat.le_trans (below_size (by repeat (first | (with_reducible first | exact HB.out | apply below_alloc | apply pw_below_drewN | apply below_drew1) | exact HB.out))) gb_); clear hg_ gb_; (first | rw [← Ny339.out] at ho82 | (simp only [Int.reduceToNat] at ho82; rw [← Ny339.out] at ho82)); have n0_ := Aside0.mk (Kd.R_below (by (with_reducible repeat (first | apply Kd.R_alloc | apply Kd.R_drewN | apply Kd.R_drew)); first | exact HO_0.out | exact Kd.R_mono HO_0.out (fun _ hk => (by first | exact hk | exact fun e_ => hk (e_.trans (own_len _ _ _ _ _))))) hb); have n1_ := Aside0.mk (Kd.P_elder' (by (with_reducible repeat (first | apply Kd.P_alloc | apply Kd.P_drewN | apply Kd.P_drew)); first | exact HO_7.out | exact Kd.P_mono HO_7.out (fun _ hk => ⟨(by first | exact hk.1 | exact fun e_ => hk.1 (e_.trans (own_len _ _ _ _ _))), ⟨(by first | exact hk.2.1 | exact fun e_ => hk.2.1 (e_.trans (own_len _ _ _ _ _))), (by first | exact hk.2.2 | exact fun e_ => hk.2.2 (e_.trans (own_len _ _ _ _ _)))⟩⟩)) (Kd.R_base ho82) hb); have n2_ := Aside0.mk (Kd.R_below (by (with_reducible repeat (first | apply Kd.R_alloc | apply Kd.R_drewN | apply Kd.R_drew)); first | exact HO_12.out | exact Kd.R_mono HO_12.out (fun _ hk => (by first | exact hk | exact fun e_ => hk (e_.trans (own_len _ _ _ _ _))))) hb); have n3_ := Aside0.mk (Kd.R_elder' (by (with_reducible repeat (first | apply Kd.R_alloc | apply Kd.R_drewN | apply Kd.R_drew)); exact HO_13.out) (Kd.R_base ho82) hb); have n4_ := Aside0.mk (Kd.R_below (by (with_reducible repeat (first | apply Kd.R_alloc | apply Kd.R_drewN | apply Kd.R_drew)); first | exact HO_15.out | exact Kd.R_mono HO_15.out (fun _ hk => (by first | exact hk | exact fun e_ => hk (e_.trans (own_len _ _ _ _ _))))) hb); have n5_ := Aside0.mk (Kd.R_below (by (with_reducible repeat (first | apply Kd.R_alloc | apply Kd.R_drewN | apply Kd.R_drew)); first | exact HO_17.out | exact Kd.R_mono HO_17.out (fun _ hk => (by first | exact hk | exact fun e_ => hk (e_.trans (own_len _ _ _ _ _))))) hb); have n6_ := Aside0.mk (Kd.R_lower (Kd.R_new' ho82 (Kd.R_lt (by (with_reducible repeat (first | apply Kd.R_alloc | apply Kd.R_drewN | apply Kd.R_drew)); exact HO_13.out))) (below_size (by repeat (first | (with_reducible first | exact HB.out | apply below_alloc | apply pw_below_drewN | apply below_drew1) | exact HB.out)))); have n7_ := Aside0.mk (below_step (by repeat (first | (with_reducible first | exact HB.out | apply below_alloc | apply pw_below_drewN | apply below_drew1) | exact HB.out)) hb); clear HO_0; clear HO_7; clear HO_12; clear HO_13; clear HO_15; clear HO_17; clear HB; have HO_0 := n0_; have HO_7 := n1_; have HO_12 := n2_; have HO_13 := n3_; have HO_15 := n4_; have HO_17 := n5_; have HO341 := n6_; have HB := n7_; clear n0_ n1_ n2_ n3_ n4_ n5_ n6_ n7_; clear hb ho82; have n_ := Aside0.mk (Kd.R_mono (ok' := (fun k_ => some k_ ≠ (v306 : Value).ownBlock)) HO341.out (fun k_ hk => hk.2)); clear HO341; have HO341 := n_; clear n_) | ((with_reducible refine gate_store (t := 50) (p := 23) rfl ?_); refine arrput_event (k := .u16) (n := 64) (ys := t337) rfl rfl rfl rfl rfl (by kernel_rfl) HO341.out ?_; intro w84 hp0_ hg hbl_; have hp_ : Kd.R (Kd.int .u16) 50 w84 w.heap.size (fun k_ => some k_ ≠ (v306 : Value).ownBlock) (.slice (some ⟨goa342, 0, none⟩) 64 64) y343 := (by rw [Ny343.out]; exact hp0_); have n0_ := Aside0.mk (Kd.R_over' (v := (.slice (some ⟨goa342, 0, none⟩) 64 64)) (by (with_reducible repeat (first | apply Kd.R_alloc | apply Kd.R_drewN | apply Kd.R_drew)); first | exact HO_0.out | exact Kd.R_mono HO_0.out (fun _ hk => (by first | exact hk | exact fun e_ => hk (e_.trans (own_len _ _ _ _ _))))) (Kd.R_typed HO341.out) (by decide) hg); have n1_ := Aside0.mk (Kd.P_after (v := (.slice (some ⟨goa342, 0, none⟩) 64 64)) (v1 := (.slice (some ⟨goa342, 0, none⟩) 64 64)) (ok := (fun k_ => some k_ ≠ (v304 : Value).ownBlock ∧ some k_ ≠ (v306 : Value).ownBlock ∧ some k_ ≠ (v312 : Value).ownBlock)) (by (with_reducible repeat (first | apply Kd.P_alloc | apply Kd.P_drewN | apply Kd.P_drew)); first | exact HO_7.out | exact Kd.P_mono HO_7.out (fun _ hk => ⟨⟨(by first | exact hk.1.1 | exact fun e_ => hk.1.1 (e_.trans (own_len _ _ _ _ _))), ⟨(by first | exact hk.1.2.1 | exact fun e_ => hk.1.2.1 (e_.trans (own_len _ _ _ _ _))), (by first | exact hk.1.2.2 | exact fun e_ => hk.1.2.2 (e_.trans (own_len _ _ _ _ _)))⟩⟩, (by first | exact hk.2 | exact fun e_ => hk.2 (e_.trans (own_len _ _ _ _ _)))⟩)) hg (.inl rfl)); have n2_ := Aside0.mk (Kd.R_over' (v := (.slice (some ⟨goa342, 0, none⟩) 64 64)) (by (with_reducible repeat (first | apply Kd.R_alloc | apply Kd.R_drewN | apply Kd.R_drew)); first | exact HO_12.out | exact Kd.R_mono HO_12.out (fun _ hk => (by first | exact hk | exact fun e_ => hk (e_.trans (own_len _ _ _ _ _))))) (Kd.R_typed HO341.out) (by decide) hg); have n3_ := Aside0.mk (Kd.R_after (v := (.slice (some ⟨goa342, 0, none⟩) 64 64)) (v1 := (.slice (some ⟨goa342, 0, none⟩) 64 64)) (ok := (fun _ => True)) (by (with_reducible repeat (first | apply Kd.R_alloc | apply Kd.R_drewN | apply Kd.R_drew)); first | exact HO_13.out | exact Kd.R_mono HO_13.out (fun _ hk => ⟨trivial, (by first | exact hk.2 | exact fun e_ => hk.2 (e_.trans (own_len _ _ _ _ _)))⟩)) hg (.inl rfl)); have n4_ := Aside0.mk (Kd.R_over' (v := (.slice (some ⟨goa342, 0, none⟩) 64 64)) (by (with_reducible repeat (first | apply Kd.R_alloc | apply Kd.R_drewN | apply Kd.R_drew)); first | exact HO_15.out | exact Kd.R_mono HO_15.out (fun _ hk => (by first | exact hk | exact fun e_ => hk (e_.trans (own_len _ _ _ _ _))))) (Kd.R_typed HO341.out) (by decide) hg); have n5_ := Aside0.mk (Kd.R_over' (v := (.slice (some ⟨goa342, 0, none⟩) 64 64)) (by (with_reducible repeat (first | apply Kd.R_alloc | apply Kd.R_drewN | apply Kd.R_drew)); first | exact HO_17.out | exact Kd.R_mono HO_17.out (fun _ hk => (by first | exact hk | exact fun e_ => hk (e_.trans (own_len _ _ _ _ _))))) (Kd.R_typed HO341.out) (by decide) hg); have n6_ := Aside0.mk (hp_); have n7_ := Aside0.mk (hbl_ _ _ HB.out GBa342.out); clear HO_0; clear HO_7; clear HO_12; clear HO_13; clear HO_15; clear HO_17; clear HO341; clear HB; have HO_0 := n0_; have HO_7 := n1_; have HO_12 := n2_; have HO_13 := n3_; have HO_15 := n4_; have HO_17 := n5_; have HO341 := n6_; have HB := n7_; clear n0_ n1_ n2_ n3_ n4_ n5_ n6_ n7_; clear hg hp_ hp0_ hbl_))
                   (try simp only [Act.put, List.setIfInBounds_toArray, List.set_cons_zero, List.set_cons_succ])
                   go_cut [166] (fun v166 wc => ∃ (kq : Nat) (x166_78 : Bool), v166 = .bool x166_78 ∧ Aside0 (endonymlaw4_TrieBlocks.j6 kq t288 a1 t293 t302 t311 t317 x166_78 = some true) ∧ Aside0 (kq ≤ kj60) ∧ Aside0 (Kd.R k35 35 wc w.heap.size (fun k_ => some k_ ≠ (v318 : Value).ownBlock) (.slice Ao10 t288.length co10) t288) ∧ Aside0 (Kd.P k57 57 wc w.heap.size (fun k_ => some k_ ≠ (v304 : Value).ownBlock ∧ some k_ ≠ (v312 : Value).ownBlock) (.pointer Ao26) t293) ∧ Aside0 (Kd.R (Kd.int .u16) 49 wc w.heap.size (fun k_ => some k_ ≠ (v312 : Value).ownBlock) v304 t302) ∧ Aside0 (Kd.R (Kd.int .u16) 49 wc w.heap.size (fun k_ => some k_ ≠ (v304 : Value).ownBlock) v312 t311) ∧ Aside0 (Kd.R k35 35 wc w.heap.size (fun k_ => some k_ ≠ ((.slice Ao10 t288.length co10) : Value).ownBlock) v318 t317) ∧ Aside0 (Below w.heap.size w wc))
                   case first =>
                    have H := HC79.out
                    clear HC79
                    by_cases c85 : a2 < 0
                    ·rw [if_pos c85] at H
                     have c85b0 : decide (a2 < 0) = true := decide_eq_true c85
                     clear c85
                     (first | rw [c85b0] | (simp only [i64_w, i32_w]; rw [c85b0]) | skip)
                     by_cases c86 : t338 = true
                     ·subst c86
                      have H1 : (endonymlaw4_TrieBlocks.j6 kj60 t288 a1 t293 t302 t311 t317 true) = some true := by rw [if_pos rfl] at H; exact H
                      clear H; have H := H1; clear H1
                      exact (endonymlaw4_TrieBlocks.j6_no H).elim
                     ·replace c86 := Bool.eq_false_iff.mpr c86
                      subst c86
                      have H1 : (endonymlaw4_TrieBlocks.j6 kj60 t288 a1 t293 t302 t311 t317 (!(arrEq 64 y343 ([] : List Int)))) = some true := by rw [if_neg (show ¬ (false = true) by decide)] at H; exact H
                      clear H; have H := H1; clear H1
                      have H' := Aside0.mk H
                      clear H
                      have hap87 := R_arr_at (k := .u16) HO341.out
                      try go_wp2_with (first | ((first | refine wpList_load_arr rfl _ rfl rfl hap87 Try.underlying50 (by kernel_rfl) ?_ | refine wpList_load_arr_on _ rfl rfl hap87 Try.underlying50 (by kernel_rfl) (by rfl) ?_); (try simp only [Act.put, List.setIfInBounds_toArray, List.set_cons_zero, List.set_cons_succ])) | ((first | refine wpList_build_arr (k := .u16) (n := 64) (t := 50) rfl rfl (by kernel_rfl) ?_ | refine wpList_build_arr_on (k := .u16) (n := 64) (t := 50) rfl (by kernel_rfl) (by rfl) ?_); (try simp only [Act.put, List.setIfInBounds_toArray, List.set_cons_zero, List.set_cons_succ])))
                      go_meet
                      case rel => exact ⟨_, (!(arrEq 64 y343 ([] : List Int))), (by first | rfl | (simp; done) | (simp [*]; done)), H', ⟨by have := HJ7.out; have := HJ23.out; have := HK3.out; have := HK4.out; have := HK5.out; have := HJ60.out; first | omega | exact Nat.le_refl _⟩, ⟨by (with_reducible repeat (first | apply Kd.R_alloc | apply Kd.R_drewN | apply Kd.R_drew)); first | exact HO_0.out | exact Kd.R_mono HO_0.out (fun _ hk => (by first | exact hk | exact fun e_ => hk (e_.trans (own_len _ _ _ _ _))))⟩, ⟨by (with_reducible repeat (first | apply Kd.P_alloc | apply Kd.P_drewN | apply Kd.P_drew)); first | exact Kd.P_mono HO_7.out (fun _ hk => ⟨hk.1.1, hk.1.2.2⟩) | exact Kd.P_mono HO_7.out (fun _ hk => ⟨(by first | exact hk.1.1 | exact fun e_ => hk.1.1 (e_.trans (own_len _ _ _ _ _))), (by first | exact hk.1.2.2 | exact fun e_ => hk.1.2.2 (e_.trans (own_len _ _ _ _ _)))⟩)⟩, ⟨by (with_reducible repeat (first | apply Kd.R_alloc | apply Kd.R_drewN | apply Kd.R_drew)); first | exact HO_12.out | exact Kd.R_mono HO_12.out (fun _ hk => (by first | exact hk | exact fun e_ => hk (e_.trans (own_len _ _ _ _ _))))⟩, ⟨by (with_reducible repeat (first | apply Kd.R_alloc | apply Kd.R_drewN | apply Kd.R_drew)); first | exact HO_15.out | exact Kd.R_mono HO_15.out (fun _ hk => (by first | exact hk | exact fun e_ => hk (e_.trans (own_len _ _ _ _ _))))⟩, ⟨by (with_reducible repeat (first | apply Kd.R_alloc | apply Kd.R_drewN | apply Kd.R_drew)); first | exact HO_17.out | exact Kd.R_mono HO_17.out (fun _ hk => (by first | exact hk | exact fun e_ => hk (e_.trans (own_len _ _ _ _ _))))⟩, ⟨by repeat (first | (with_reducible first | exact HB.out | apply below_alloc | apply pw_below_drewN | apply below_drew1) | exact HB.out)⟩⟩
                    ·rw [if_neg c85] at H
                     have c85b0 : decide (a2 < 0) = false := decide_eq_false c85
                     clear c85
                     (first | rw [c85b0] | (simp only [i64_w, i32_w]; rw [c85b0]) | skip)
                     by_cases c88 : a2 ≥ (x13_5.length : Int)
                     ·rw [if_pos c88] at H
                      have c88b0 : decide ((x13_5.length : Int) ≤ a2) = true := decide_eq_true c88
                      clear c88
                      by_cases c89 : t338 = true
                      ·subst c89
                       have H1 : (endonymlaw4_TrieBlocks.j6 kj60 t288 a1 t293 t302 t311 t317 true) = some true := by rw [if_pos rfl] at H; exact H
                       clear H; have H := H1; clear H1
                       exact (endonymlaw4_TrieBlocks.j6_no H).elim
                      ·replace c89 := Bool.eq_false_iff.mpr c89
                       subst c89
                       have H1 : (endonymlaw4_TrieBlocks.j6 kj60 t288 a1 t293 t302 t311 t317 (!(arrEq 64 y343 ([] : List Int)))) = some true := by rw [if_neg (show ¬ (false = true) by decide)] at H; exact H
                       clear H; have H := H1; clear H1
                       have H' := Aside0.mk H
                       clear H
                       obtain ⟨Ao90, co90, eo90⟩ := Kd.R_slice HO_13.out
                       subst eo90
                       have hap91 := R_arr_at (k := .u16) HO341.out
                       try go_wp2_with (first | ((first | refine wpList_load_arr rfl _ rfl rfl hap91 Try.underlying50 (by kernel_rfl) ?_ | refine wpList_load_arr_on _ rfl rfl hap91 Try.underlying50 (by kernel_rfl) (by rfl) ?_); (try simp only [Act.put, List.setIfInBounds_toArray, List.set_cons_zero, List.set_cons_succ])) | ((first | refine wpList_build_arr (k := .u16) (n := 64) (t := 50) rfl rfl (by kernel_rfl) ?_ | refine wpList_build_arr_on (k := .u16) (n := 64) (t := 50) rfl (by kernel_rfl) (by rfl) ?_); (try simp only [Act.put, List.setIfInBounds_toArray, List.set_cons_zero, List.set_cons_succ])))
                       go_meet
                       case rel => exact ⟨_, (!(arrEq 64 y343 ([] : List Int))), (by first | rfl | (simp; done) | (simp [*]; done)), H', ⟨by have := HJ7.out; have := HJ23.out; have := HK3.out; have := HK4.out; have := HK5.out; have := HJ60.out; first | omega | exact Nat.le_refl _⟩, ⟨by (with_reducible repeat (first | apply Kd.R_alloc | apply Kd.R_drewN | apply Kd.R_drew)); first | exact HO_0.out | exact Kd.R_mono HO_0.out (fun _ hk => (by first | exact hk | exact fun e_ => hk (e_.trans (own_len _ _ _ _ _))))⟩, ⟨by (with_reducible repeat (first | apply Kd.P_alloc | apply Kd.P_drewN | apply Kd.P_drew)); first | exact Kd.P_mono HO_7.out (fun _ hk => ⟨hk.1.1, hk.1.2.2⟩) | exact Kd.P_mono HO_7.out (fun _ hk => ⟨(by first | exact hk.1.1 | exact fun e_ => hk.1.1 (e_.trans (own_len _ _ _ _ _))), (by first | exact hk.1.2.2 | exact fun e_ => hk.1.2.2 (e_.trans (own_len _ _ _ _ _)))⟩)⟩, ⟨by (with_reducible repeat (first | apply Kd.R_alloc | apply Kd.R_drewN | apply Kd.R_drew)); first | exact HO_12.out | exact Kd.R_mono HO_12.out (fun _ hk => (by first | exact hk | exact fun e_ => hk (e_.trans (own_len _ _ _ _ _))))⟩, ⟨by (with_reducible repeat (first | apply Kd.R_alloc | apply Kd.R_drewN | apply Kd.R_drew)); first | exact HO_15.out | exact Kd.R_mono HO_15.out (fun _ hk => (by first | exact hk | exact fun e_ => hk (e_.trans (own_len _ _ _ _ _))))⟩, ⟨by (with_reducible repeat (first | apply Kd.R_alloc | apply Kd.R_drewN | apply Kd.R_drew)); first | exact HO_17.out | exact Kd.R_mono HO_17.out (fun _ hk => (by first | exact hk | exact fun e_ => hk (e_.trans (own_len _ _ _ _ _))))⟩, ⟨by repeat (first | (with_reducible first | exact HB.out | apply below_alloc | apply pw_below_drewN | apply below_drew1) | exact HB.out)⟩⟩
                     ·rw [if_neg c88] at H
                      have c88b0 : decide ((x13_5.length : Int) ≤ a2) = false := decide_eq_false c88
                      clear c88
                      have H' := Aside0.mk H
                      clear H
                      obtain ⟨Ao92, co92, eo92⟩ := Kd.R_slice HO_13.out
                      subst eo92
                      try go_wp2
                      go_meet
                      case rel => exact ⟨_, (false), (by first | rfl | (simp; done) | (simp [*]; done)), H', ⟨by have := HJ7.out; have := HJ23.out; have := HK3.out; have := HK4.out; have := HK5.out; have := HJ60.out; first | omega | exact Nat.le_refl _⟩, ⟨by (with_reducible repeat (first | apply Kd.R_alloc | apply Kd.R_drewN | apply Kd.R_drew)); first | exact HO_0.out | exact Kd.R_mono HO_0.out (fun _ hk => (by first | exact hk | exact fun e_ => hk (e_.trans (own_len _ _ _ _ _))))⟩, ⟨by (with_reducible repeat (first | apply Kd.P_alloc | apply Kd.P_drewN | apply Kd.P_drew)); first | exact Kd.P_mono HO_7.out (fun _ hk => ⟨hk.1.1, hk.1.2.2⟩) | exact Kd.P_mono HO_7.out (fun _ hk => ⟨(by first | exact hk.1.1 | exact fun e_ => hk.1.1 (e_.trans (own_len _ _ _ _ _))), (by first | exact hk.1.2.2 | exact fun e_ => hk.1.2.2 (e_.trans (own_len _ _ _ _ _)))⟩)⟩, ⟨by (with_reducible repeat (first | apply Kd.R_alloc | apply Kd.R_drewN | apply Kd.R_drew)); first | exact HO_12.out | exact Kd.R_mono HO_12.out (fun _ hk => (by first | exact hk | exact fun e_ => hk (e_.trans (own_len _ _ _ _ _))))⟩, ⟨by (with_reducible repeat (first | apply Kd.R_alloc | apply Kd.R_drewN | apply Kd.R_drew)); first | exact HO_15.out | exact Kd.R_mono HO_15.out (fun _ hk => (by first | exact hk | exact fun e_ => hk (e_.trans (own_len _ _ _ _ _))))⟩, ⟨by (with_reducible repeat (first | apply Kd.R_alloc | apply Kd.R_drewN | apply Kd.R_drew)); first | exact HO_17.out | exact Kd.R_mono HO_17.out (fun _ hk => (by first | exact hk | exact fun e_ => hk (e_.trans (own_len _ _ _ _ _))))⟩, ⟨by repeat (first | (with_reducible first | exact HB.out | apply below_alloc | apply pw_below_drewN | apply below_drew1) | exact HB.out)⟩⟩
                   case rest =>
                    clear HC79
                    (try clear c1); (try clear c2); (try clear p2); (try clear c3); (try clear p3); (try clear q3); (try clear hx3); (try clear c4); (try clear p4); (try clear q4); (try clear hx4); (try clear hf4); (try clear c5); (try clear p5); (try clear q5); (try clear hx5); (try clear hf5); (try clear c6); (try clear p6); (try clear c7); (try clear c7b0); (try clear c7b1); (try clear p7); (try clear c8); (try clear p8); (try clear c9); (try clear p9); (try clear c10); (try clear c11); (try clear c14); (try clear c18); (try clear c19); (try clear c20); (try clear c22); (try clear c31); (try clear c31b0); (try clear c31b1); (try clear c31b2); (try clear p32); (try clear q32); (try clear hx32); (try clear c33); (try clear c33b0); (try clear c33b1); (try clear p33); (try clear q33); (try clear hx33); (try clear c42); (try clear c43); (try clear c43b0); (try clear c44); (try clear c44b0); (try clear c45); (try clear c45b0); (try clear c46); (try clear c46b0); (try clear c46b1); (try clear p47); (try clear q47); (try clear hx47); (try clear hf47); (try clear c54); (try clear c54b0); (try clear c55); (try clear c55b0); (try clear c56); (try clear p56); (try clear q56); (try clear hx56); (try clear hf56); (try clear c58); (try clear hx58); (try clear hf58); (try clear c62); (try clear c62b0); (try clear p64); (try clear c65); (try clear c67); (try clear c68); (try clear c68b0); (try clear c69); (try clear c69b0); (try clear c70); (try clear c70b0); (try clear p76); (try clear c85); (try clear c85b0); (try clear c86); (try clear p87); (try clear c88); (try clear c88b0); (try clear c89); (try clear p91); (try clear hx325_0); (try clear hx326_0); (try clear hx336_0); (try clear hx47_0); (try clear hx56_0); (try clear hx56_1); (try clear hx56_2); (try clear hx58_0); (try clear hx58_1); (try clear hx58_2); (try clear p2); (try clear p3); (try clear p32); (try clear p325); (try clear p326); (try clear p336); (try clear p4); (try clear p47); (try clear p5); (try clear p56); (try clear p6); (try clear p64); (try clear q3); (try clear q32); (try clear q325); (try clear q326); (try clear q336); (try clear q4); (try clear q47); (try clear q5); (try clear q56)
                    obtain ⟨kq, x166_78, rfl, HA, HJ78, HO_0, HO_7, HO_12, HO_15, HO_17, HB⟩ := hcut
                    cases kq with
                    | zero => exact absurd HA.out (by simp [endonymlaw4_TrieBlocks.j6])
                    | succ kj78 =>
                     have H := HA.out
                     clear HA
                     simp only [endonymlaw4_TrieBlocks.j6] at H
                     by_cases c93 : x166_78 = true
                     ·subst c93
                      have H1 : (some false) = some true := by rw [if_pos rfl] at H; exact H
                      clear H; have H := H1; clear H1
                      exact absurd H (by simp)
                     ·replace c93 := Bool.eq_false_iff.mpr c93
                      subst c93
                      have H1 : (if (t311.length : Int) = (t302.length : Int) then (if 17407 < (t311.length : Int) then (if 17407 < (t302.length : Int) then (if (rd t311 17407) = (rd t302 17407) then ((trie_Trie_Index.f t293).bind fun t346 => (if 0 < (t346.length : Int) then (if 0 < (t302.length : Int) then (if (rd t346 0) = (rd t302 0) then ((endonymref4_Ranges.f kj78 t288 a1).bind fun t351 => ((endonymref4_Same.f kj78 t317 t351).bind fun t354 => (if t354 = true then ((trie_Trie_Ranges.f kj78 t293).bind fun t355 => ((endonymref4_Same.f kj78 t355 t317).bind fun t358 => (some t358))) else (some false)))) else (some false)) else (none)) else (none))) else (some false)) else (none)) else (none)) else (some false)) = some true := by rw [if_neg (show ¬ (false = true) by decide)] at H; exact H
                      clear H; have H := H1; clear H1
                      by_cases c94 : (t311.length : Int) = (t302.length : Int)
                      ·rw [if_pos c94] at H
                       have c94b0 : ((t311.length : Int) == (t302.length : Int)) = true := beq_iff_eq.mpr c94
                       have c94b1 : ((t311.length : Int) != (t302.length : Int)) = false := bne_eq_false_iff_eq.mpr c94
                       have c94b2 : (t311.length == t302.length) = true := by first | simpa using c94 | (simp at c94 ⊢; omega)
                       clear c94
                       by_cases c95 : 17407 < (t311.length : Int)
                       ·rw [if_pos c95] at H
                        have c95b0 : decide (17407 < (t311.length : Int)) = true := decide_eq_true c95
                        have c95b1 : decide (17407 < t311.length) = true := decide_eq_true (by omega)
                        clear c95
                        by_cases c96 : 17407 < (t302.length : Int)
                        ·rw [if_pos c96] at H
                         have c96b0 : decide (17407 < (t302.length : Int)) = true := decide_eq_true c96
                         have c96b1 : decide (17407 < t302.length) = true := decide_eq_true (by omega)
                         clear c96
                         by_cases c97 : (rd t311 17407) = (rd t302 17407)
                         ·rw [if_pos c97] at H
                          have c97b0 : ((rd t311 17407) == (rd t302 17407)) = true := beq_iff_eq.mpr c97
                          have c97b1 : ((rd t311 17407) != (rd t302 17407)) = false := bne_eq_false_iff_eq.mpr c97
                          clear c97
                          replace H := Option.bind_eq_some_iff.mp H
                          obtain ⟨t346, A980, H⟩ := H
                          replace H : (if 0 < (t346.length : Int) then (if 0 < (t302.length : Int) then (if (rd t346 0) = (rd t302 0) then ((endonymref4_Ranges.f kj78 t288 a1).bind fun t351 => ((endonymref4_Same.f kj78 t317 t351).bind fun t354 => (if t354 = true then ((trie_Trie_Ranges.f kj78 t293).bind fun t355 => ((endonymref4_Same.f kj78 t355 t317).bind fun t358 => (some t358))) else (some false)))) else (some false)) else (none)) else (none)) = some true := H
                          have A98 := Aside0.mk A980
                          clear A980
                          by_cases c99 : 0 < (t346.length : Int)
                          ·rw [if_pos c99] at H
                           have c99b0 : decide (0 < (t346.length : Int)) = true := decide_eq_true c99
                           have c99b1 : decide (0 < t346.length) = true := decide_eq_true (by omega)
                           clear c99
                           by_cases c100 : 0 < (t302.length : Int)
                           ·rw [if_pos c100] at H
                            have c100b0 : decide (0 < (t302.length : Int)) = true := decide_eq_true c100
                            have c100b1 : decide (0 < t302.length) = true := decide_eq_true (by omega)
                            clear c100
                            by_cases c101 : (rd t346 0) = (rd t302 0)
                            ·rw [if_pos c101] at H
                             have c101b0 : ((rd t346 0) == (rd t302 0)) = true := beq_iff_eq.mpr c101
                             have c101b1 : ((rd t346 0) != (rd t302 0)) = false := bne_eq_false_iff_eq.mpr c101
                             clear c101
                             replace H := Option.bind_eq_some_iff.mp H
                             obtain ⟨t351, A1020, H⟩ := H
                             replace H : ((endonymref4_Same.f kj78 t317 t351).bind fun t354 => (if t354 = true then ((trie_Trie_Ranges.f kj78 t293).bind fun t355 => ((endonymref4_Same.f kj78 t355 t317).bind fun t358 => (some t358))) else (some false))) = some true := H
                             have A102 := Aside0.mk A1020
                             clear A1020
                             replace H := Option.bind_eq_some_iff.mp H
                             obtain ⟨t354, A1030, H⟩ := H
                             replace H : (if t354 = true then ((trie_Trie_Ranges.f kj78 t293).bind fun t355 => ((endonymref4_Same.f kj78 t355 t317).bind fun t358 => (some t358))) else (some false)) = some true := H
                             have A103 := Aside0.mk A1030
                             clear A1030
                             by_cases c104 : t354 = true
                             ·subst c104
                              have H1 : ((trie_Trie_Ranges.f kj78 t293).bind fun t355 => ((endonymref4_Same.f kj78 t355 t317).bind fun t358 => (some t358))) = some true := by rw [if_pos rfl] at H; exact H
                              clear H; have H := H1; clear H1
                              replace H := Option.bind_eq_some_iff.mp H
                              obtain ⟨t355, A1050, H⟩ := H
                              replace H : ((endonymref4_Same.f kj78 t355 t317).bind fun t358 => (some t358)) = some true := H
                              have A105 := Aside0.mk A1050
                              clear A1050
                              replace H := Option.bind_eq_some_iff.mp H
                              obtain ⟨t358, A1060, H⟩ := H
                              replace H : (some t358) = some true := H
                              have A106 := Aside0.mk A1060
                              clear A1060
                              have hR_ := Option.some.inj H
                              try go_wp2
                              have n0_ := Aside0.mk (Kd.R_drew HO_0.out); have n1_ := Aside0.mk (Kd.P_drew HO_7.out); have n2_ := Aside0.mk (Kd.R_drew HO_12.out); have n3_ := Aside0.mk (Kd.R_drew HO_15.out); have n4_ := Aside0.mk (Kd.R_drew HO_17.out); have n5_ := Aside0.mk (below_drew1 HB.out); clear HO_0; clear HO_7; clear HO_12; clear HO_15; clear HO_17; clear HB; have HO_0 := n0_; have HO_7 := n1_; have HO_12 := n2_; have HO_15 := n3_; have HO_17 := n4_; have HB := n5_; clear n0_ n1_ n2_ n3_ n4_ n5_
                              obtain ⟨Ao108, co108, eo108⟩ := Kd.R_slice HO_15.out
                              (first | subst eo108 | (injection eo108 with f1_ f2_ f3_; have f4_ := f1_.symm; have f5_ := f3_.symm; clear f1_ f2_ f3_; subst f4_; subst f5_))
                              obtain ⟨Ao109, co109, eo109⟩ := Kd.R_slice HO_12.out
                              (first | subst eo109 | (injection eo109 with f1_ f2_ f3_; have f4_ := f1_.symm; have f5_ := f3_.symm; clear f1_ f2_ f3_; subst f4_; subst f5_))
                              have p344 : 0 ≤ (17407 : Int) := (by omega)
                              have q344 : 17407 < (t311.length : Int) := of_decide_eq_true (by first | (with_reducible assumption) | assumption)
                              obtain ⟨ad344, e344, hx344_0⟩ := Kd.at_int (Kd.R_reads' HO_15.out).2.2 17407 p344 q344
                              cases e344
                              (try simp only [show (17407 : Int).toNat = 17407 from rfl, Nat.reduceMul, Nat.reduceEqDiff, Go.Addr.add, ↓reduceIte] at hx344_0)
                              have qi344 : (17407 < t311.length) = True := eq_true (by omega)
                              (try rw [show ((17407 : Int)).toNat = 17407 from rfl] at hx344_0)
                              replace p344 := eq_true p344; replace q344 := eq_true q344
                              have p345 : 0 ≤ (17407 : Int) := (by omega)
                              have q345 : 17407 < (t302.length : Int) := of_decide_eq_true (by first | (with_reducible assumption) | assumption)
                              obtain ⟨ad345, e345, hx345_0⟩ := Kd.at_int (Kd.R_reads' HO_12.out).2.2 17407 p345 q345
                              cases e345
                              (try simp only [show (17407 : Int).toNat = 17407 from rfl, Nat.reduceMul, Nat.reduceEqDiff, Go.Addr.add, ↓reduceIte] at hx345_0)
                              have qi345 : (17407 < t302.length) = True := eq_true (by omega)
                              (try rw [show ((17407 : Int)).toNat = 17407 from rfl] at hx345_0)
                              replace p345 := eq_true p345; replace q345 := eq_true q345
                              have p350 : 0 ≤ (0 : Int) := (by omega)
                              have q350 : 0 < (t302.length : Int) := of_decide_eq_true (by first | (with_reducible assumption) | assumption)
                              obtain ⟨ad350, e350, hx350_0⟩ := Kd.at_int (Kd.R_reads' HO_12.out).2.2 0 p350 q350
                              obtain rfl : ad345 = ad350 := (by injection e350)
                              have qi350 : (0 < t302.length) = True := eq_true (by omega)
                              (try rw [show ((0 : Int)).toNat = 0 from rfl] at hx350_0)
                              (try rw [Addr.add_zero'] at hx350_0)
                              replace p350 := eq_true p350; replace q350 := eq_true q350
                              refine start_ (n := 38) (S := fun w' => w'.cell? ⟨ad344.block, ad344.off + 17407, none⟩ = some (.int .u16 (rd t311 17407)) ∧ w'.cell? ⟨ad345.block, ad345.off + 17407, none⟩ = some (.int .u16 (rd t302 17407)) ∧ w'.cell? ad345 = some (.int .u16 (rd t302 0))) (ds := []) #[false, false, false, false, false, false, false, false, false, false, false, false, false, false, false, false, false, false, false, false, false, false, false, false, false, false, false, false, false, false, false, false, false, false, false, false, false, false] (by kernel_rfl) rfl rfl ⟨hx344_0, hx345_0, hx350_0⟩ (fun hHeld => ?_); refine with_tabW endonymlaw4_TrieBlocks.tab32 endonymlaw4_TrieBlocks.bits32 (fun HT_ HW_ => ?_)
                              generalize wc.drew = w107 at HO_0 HO_7 HO_12 HO_15 HO_17 HB hx344_0 hx345_0 hx350_0 hHeld ⊢
                              refine pure_ (i := 0) (N := some 167) (v := ?_) (a' := ?_) #[x_, o_, o_, o_, o_, o_, o_, o_, o_, o_, o_, o_, o_, o_, o_, o_, o_, o_, o_, o_, o_, o_, o_, o_, o_, o_, o_, o_, o_, o_, o_, o_, o_, o_, o_, o_, o_, o_] rfl rfl (any_of HT_.out (by kernel_rfl)) (fun _ _ _ h => h) (Or.inl ⟨by rfl, ?_⟩) ?_ ?_; rotate_left; (·(intro w'; go_simp <;> with_reducible rfl)); rotate_left; (·(simp only [Act.put, List.setIfInBounds_toArray, List.set_cons_zero, List.set_cons_succ, i64_w, i32_w] <;> rfl))
                              refine pure_ (i := 1) (N := some 168) (v := ?_) (a' := ?_) #[x_, x_, o_, o_, o_, o_, o_, o_, o_, o_, o_, o_, o_, o_, o_, o_, o_, o_, o_, o_, o_, o_, o_, o_, o_, o_, o_, o_, o_, o_, o_, o_, o_, o_, o_, o_, o_, o_] rfl rfl (any_of HT_.out (by kernel_rfl)) (fun _ _ _ h => h) (Or.inl ⟨by rfl, ?_⟩) ?_ ?_; rotate_left; (·(intro w'; go_simp <;> with_reducible rfl)); rotate_left; (·(simp only [Act.put, List.setIfInBounds_toArray, List.set_cons_zero, List.set_cons_succ, i64_w, i32_w] <;> rfl))
                              refine pure_ (i := 2) (N := some 169) (v := ?_) (a' := ?_) #[x_, x_, x_, o_, o_, o_, o_, o_, o_, o_, o_, o_, o_, o_, o_, o_, o_, o_, o_, o_, o_, o_, o_, o_, o_, o_, o_, o_, o_, o_, o_, o_, o_, o_, o_, o_, o_, o_] rfl rfl (any_of HT_.out (by kernel_rfl)) (fun _ _ _ h => h) (Or.inl ⟨by rfl, ?_⟩) ?_ ?_; rotate_left; (·(intro w'; go_simp <;> with_reducible rfl)); rotate_left; (·(simp only [Act.put, List.setIfInBounds_toArray, List.set_cons_zero, List.set_cons_succ, i64_w, i32_w] <;> rfl))
                              refine pure_ (i := 3) (N := some 170) (v := ?_) (a' := ?_) #[x_, x_, x_, x_, o_, o_, o_, o_, o_, o_, o_, o_, o_, o_, o_, o_, o_, o_, o_, o_, o_, o_, o_, o_, o_, o_, o_, o_, o_, o_, o_, o_, o_, o_, o_, o_, o_, o_] rfl rfl (any_of HT_.out (by kernel_rfl)) (fun _ _ _ h => h) (Or.inl ⟨by rfl, ?_⟩) ?_ ?_; rotate_left; (·(intro w'; go_simp <;> with_reducible rfl)); rotate_left; (·(simp only [Act.put, List.setIfInBounds_toArray, List.set_cons_zero, List.set_cons_succ, i64_w, i32_w] <;> rfl))
                              refine pure_ (i := 4) (N := some 171) (v := ?_) (a' := ?_) #[x_, x_, x_, x_, x_, o_, o_, o_, o_, o_, o_, o_, o_, o_, o_, o_, o_, o_, o_, o_, o_, o_, o_, o_, o_, o_, o_, o_, o_, o_, o_, o_, o_, o_, o_, o_, o_, o_] rfl rfl (any_of HT_.out (by kernel_rfl)) (fun _ _ _ h => h) (Or.inl ⟨by rfl, ?_⟩) ?_ ?_; rotate_left; (·(intro w'; go_simp <;> with_reducible rfl)); rotate_left; (·(simp only [Act.put, List.setIfInBounds_toArray, List.set_cons_zero, List.set_cons_succ, i64_w, i32_w] <;> rfl))
                              refine pure_ (i := 5) (N := some 172) (v := ?_) (a' := ?_) #[x_, x_, x_, x_, x_, x_, o_, o_, o_, o_, o_, o_, o_, o_, o_, o_, o_, o_, o_, o_, o_, o_, o_, o_, o_, o_, o_, o_, o_, o_, o_, o_, o_, o_, o_, o_, o_, o_] rfl rfl (any_of HT_.out (by kernel_rfl)) (fun _ _ _ h => h) (Or.inl ⟨by rfl, ?_⟩) ?_ ?_; rotate_left; (·(intro w'; go_simp <;> with_reducible rfl)); rotate_left; (·(simp only [Act.put, List.setIfInBounds_toArray, List.set_cons_zero, List.set_cons_succ, i64_w, i32_w] <;> rfl))
                              refine pure_ (i := 6) (N := some 173) (v := ?_) (a' := ?_) #[x_, x_, x_, x_, x_, x_, x_, o_, o_, o_, o_, o_, o_, o_, o_, o_, o_, o_, o_, o_, o_, o_, o_, o_, o_, o_, o_, o_, o_, o_, o_, o_, o_, o_, o_, o_, o_, o_] rfl rfl (any_of HT_.out (by kernel_rfl)) (fun _ _ _ h => h) (Or.inl ⟨by rfl, ?_⟩) ?_ ?_; rotate_left; (·(intro w'; go_simp <;> with_reducible rfl)); rotate_left; (·(simp only [Act.put, List.setIfInBounds_toArray, List.set_cons_zero, List.set_cons_succ, i64_w, i32_w] <;> rfl))
                              refine pure_ (i := 7) (N := some 174) (v := ?_) (a' := ?_) #[x_, x_, x_, x_, x_, x_, x_, x_, o_, o_, o_, o_, o_, o_, o_, o_, o_, o_, o_, o_, o_, o_, o_, o_, o_, o_, o_, o_, o_, o_, o_, o_, o_, o_, o_, o_, o_, o_] rfl rfl (any_of HT_.out (by kernel_rfl)) (fun _ _ _ h => h) (Or.inl ⟨by rfl, ?_⟩) ?_ ?_; rotate_left; (·(intro w'; go_simp <;> with_reducible rfl)); rotate_left; (·(simp only [Act.put, List.setIfInBounds_toArray, List.set_cons_zero, List.set_cons_succ, i64_w, i32_w] <;> rfl))
                              refine pure_ (i := 9) (N := some 176) (v := ?_) (a' := ?_) #[x_, x_, x_, x_, x_, x_, x_, x_, o_, x_, o_, o_, o_, o_, o_, o_, o_, o_, o_, o_, o_, o_, o_, o_, o_, o_, o_, o_, o_, o_, o_, o_, o_, o_, o_, o_, o_, o_] rfl rfl (any_of HT_.out (by kernel_rfl)) (fun _ _ _ h => h) (Or.inl ⟨by rfl, ?_⟩) ?_ ?_; rotate_left; (·(intro w'; go_simp <;> with_reducible rfl)); rotate_left; (·(simp only [Act.put, List.setIfInBounds_toArray, List.set_cons_zero, List.set_cons_succ, i64_w, i32_w] <;> rfl))
                              refine pure_ (i := 10) (N := some 177) (v := ?_) (a' := ?_) #[x_, x_, x_, x_, x_, x_, x_, x_, o_, x_, x_, o_, o_, o_, o_, o_, o_, o_, o_, o_, o_, o_, o_, o_, o_, o_, o_, o_, o_, o_, o_, o_, o_, o_, o_, o_, o_, o_] rfl rfl (any_of HT_.out (by kernel_rfl)) (fun _ _ _ h => h) (Or.inl ⟨by rfl, ?_⟩) ?_ ?_; rotate_left; (·(intro w'; go_simp <;> with_reducible rfl)); rotate_left; (·(simp only [Act.put, List.setIfInBounds_toArray, List.set_cons_zero, List.set_cons_succ, i64_w, i32_w] <;> rfl))
                              refine take_ (i := 8) (N := some 175) (v := ?_) (a' := ?_) #[true, true, true, true, true, true, true, true, true, true, true, false, false, false, false, false, false, false, false, false, false, false, false, false, false, false, false, false, false, false, false, false, false, false, false, false, false, false] rfl rfl (take_ofW HT_.out HW_.out (by kernel_rfl)) (fun _ _ _ h => h) (Or.inl ⟨by rfl, ?_⟩) hHeld ?_ ?_
                              rotate_left
                              ·rintro w' ⟨s0, s1, s2⟩
                               go_simp
                               with_reducible rfl
                              rotate_left
                              ·simp only [Act.put, List.setIfInBounds_toArray, List.set_cons_zero, List.set_cons_succ, i64_w, i32_w]
                               rfl
                              refine take_ (i := 11) (N := some 178) (v := ?_) (a' := ?_) #[true, true, true, true, true, true, true, true, true, true, true, true, false, false, false, false, false, false, false, false, false, false, false, false, false, false, false, false, false, false, false, false, false, false, false, false, false, false] rfl rfl (take_ofW HT_.out HW_.out (by kernel_rfl)) (fun _ _ _ h => h) (Or.inl ⟨by rfl, ?_⟩) hHeld ?_ ?_
                              rotate_left
                              ·rintro w' ⟨s0, s1, s2⟩
                               go_simp
                               with_reducible rfl
                              rotate_left
                              ·simp only [Act.put, List.setIfInBounds_toArray, List.set_cons_zero, List.set_cons_succ, i64_w, i32_w]
                               rfl
                              refine pure_ (i := 12) (N := some 179) (v := ?_) (a' := ?_) #[x_, x_, x_, x_, x_, x_, x_, x_, x_, x_, x_, x_, x_, o_, o_, o_, o_, o_, o_, o_, o_, o_, o_, o_, o_, o_, o_, o_, o_, o_, o_, o_, o_, o_, o_, o_, o_, o_] rfl rfl (any_of HT_.out (by kernel_rfl)) (fun _ _ _ h => h) (Or.inl ⟨by rfl, ?_⟩) ?_ ?_; rotate_left; (·(intro w'; go_simp <;> with_reducible rfl)); rotate_left; (·(simp only [Act.put, List.setIfInBounds_toArray, List.set_cons_zero, List.set_cons_succ, i64_w, i32_w] <;> rfl))
                              refine pure_ (i := 13) (N := some 180) (v := ?_) (a' := ?_) #[x_, x_, x_, x_, x_, x_, x_, x_, x_, x_, x_, x_, x_, x_, o_, o_, o_, o_, o_, o_, o_, o_, o_, o_, o_, o_, o_, o_, o_, o_, o_, o_, o_, o_, o_, o_, o_, o_] rfl rfl (any_of HT_.out (by kernel_rfl)) (fun _ _ _ h => h) (Or.inl ⟨by rfl, ?_⟩) ?_ ?_; rotate_left; (·(intro w'; go_simp <;> with_reducible rfl)); rotate_left; (·(simp only [Act.put, List.setIfInBounds_toArray, List.set_cons_zero, List.set_cons_succ, i64_w, i32_w] <;> rfl))
                              refine pure_ (i := 14) (N := some 181) (v := ?_) (a' := ?_) #[x_, x_, x_, x_, x_, x_, x_, x_, x_, x_, x_, x_, x_, x_, x_, o_, o_, o_, o_, o_, o_, o_, o_, o_, o_, o_, o_, o_, o_, o_, o_, o_, o_, o_, o_, o_, o_, o_] rfl rfl (any_of HT_.out (by kernel_rfl)) (fun _ _ _ h => h) (Or.inl ⟨by rfl, ?_⟩) ?_ ?_; rotate_left; (·(intro w'; go_simp <;> with_reducible rfl)); rotate_left; (·(simp only [Act.put, List.setIfInBounds_toArray, List.set_cons_zero, List.set_cons_succ, i64_w, i32_w] <;> rfl))
                              refine pure_ (i := 15) (N := some 182) (v := ?_) (a' := ?_) #[x_, x_, x_, x_, x_, x_, x_, x_, x_, x_, x_, x_, x_, x_, x_, x_, o_, o_, o_, o_, o_, o_, o_, o_, o_, o_, o_, o_, o_, o_, o_, o_, o_, o_, o_, o_, o_, o_] rfl rfl (any_of HT_.out (by kernel_rfl)) (fun _ _ _ h => h) (Or.inl ⟨by rfl, ?_⟩) ?_ ?_; rotate_left; (·(intro w'; go_simp <;> with_reducible rfl)); rotate_left; (·(simp only [Act.put, List.setIfInBounds_toArray, List.set_cons_zero, List.set_cons_succ, i64_w, i32_w] <;> rfl))
                              refine pure_ (i := 19) (N := some 186) (v := ?_) (a' := ?_) #[x_, x_, x_, x_, x_, x_, x_, x_, x_, x_, x_, x_, x_, x_, x_, x_, o_, o_, o_, x_, o_, o_, o_, o_, o_, o_, o_, o_, o_, o_, o_, o_, o_, o_, o_, o_, o_, o_] rfl rfl (any_of HT_.out (by kernel_rfl)) (fun _ _ _ h => h) (Or.inl ⟨by rfl, ?_⟩) ?_ ?_; rotate_left; (·(intro w'; go_simp <;> with_reducible rfl)); rotate_left; (·(simp only [Act.put, List.setIfInBounds_toArray, List.set_cons_zero, List.set_cons_succ, i64_w, i32_w] <;> rfl))
                              refine pure_ (i := 20) (N := some 187) (v := ?_) (a' := ?_) #[x_, x_, x_, x_, x_, x_, x_, x_, x_, x_, x_, x_, x_, x_, x_, x_, o_, o_, o_, x_, x_, o_, o_, o_, o_, o_, o_, o_, o_, o_, o_, o_, o_, o_, o_, o_, o_, o_] rfl rfl (any_of HT_.out (by kernel_rfl)) (fun _ _ _ h => h) (Or.inl ⟨by rfl, ?_⟩) ?_ ?_; rotate_left; (·(intro w'; go_simp <;> with_reducible rfl)); rotate_left; (·(simp only [Act.put, List.setIfInBounds_toArray, List.set_cons_zero, List.set_cons_succ, i64_w, i32_w] <;> rfl))
                              refine take_ (i := 21) (N := some 188) (v := ?_) (a' := ?_) #[true, true, true, true, true, true, true, true, true, true, true, true, true, true, true, true, false, false, false, true, true, true, false, false, false, false, false, false, false, false, false, false, false, false, false, false, false, false] rfl rfl (take_ofW HT_.out HW_.out (by kernel_rfl)) (fun _ _ _ h => h) (Or.inl ⟨by rfl, ?_⟩) hHeld ?_ ?_
                              rotate_left
                              ·rintro w' ⟨s0, s1, s2⟩
                               go_simp
                               with_reducible rfl
                              rotate_left
                              ·simp only [Act.put, List.setIfInBounds_toArray, List.set_cons_zero, List.set_cons_succ, i64_w, i32_w]
                               rfl
                              refine one_ (i := 16) (N := some 183) #[true, true, true, true, true, true, true, true, true, true, true, true, true, true, true, true, true, false, false, true, true, true, false, false, false, false, false, false, false, false, false, false, false, false, false, false, false, false] rfl rfl (one_of HT_.out (by kernel_rfl)) (by decide) (fun K hK => ?_)
                              refine goes_ Try.func19 (by kernel_rfl) rfl #[.pointer Ao26] (by rfl) rfl rfl (by (try simp only [List.map_toArray, List.map_cons, List.map_nil]); first | done | rfl | (simp only [List.length_drop, List.length_take]; rfl)) ?_
                              with_reducible refine (trie_Trie_Index.calls _ t293 t346 _ ?side1 A98.out).mono ?_
                              (case side1 => repeat (first | exact (Kd.P_reads' HO_7.out).2.2 | (with_reducible refine Kd.PC_alloc ?_ _) | (with_reducible refine Kd.PC_drewN ?_ _) | (with_reducible refine Kd.PC_drew ?_)))
                              rintro e w110 ⟨v347, rfl, ho0, hb⟩
                              have HS0_ := (hb.cell (World.block_lt_of_cell? _ _ (hHeld.1))).trans (hHeld.1)
                              have HS1_ := (hb.cell (World.block_lt_of_cell? _ _ (hHeld.2.1))).trans (hHeld.2.1)
                              have HS2_ := (hb.cell (World.block_lt_of_cell? _ _ (hHeld.2.2))).trans (hHeld.2.2)
                              refine ⟨_, rfl, ?_⟩; have n0_ := Aside0.mk (Kd.R_below (by (with_reducible repeat (first | apply Kd.R_alloc | apply Kd.R_drewN | apply Kd.R_drew)); first | exact HO_0.out | exact Kd.R_mono HO_0.out (fun _ hk => (by first | exact hk | exact fun e_ => hk (e_.trans (own_len _ _ _ _ _))))) hb); have n1_ := Aside0.mk (Kd.P_elder' (by (with_reducible repeat (first | apply Kd.P_alloc | apply Kd.P_drewN | apply Kd.P_drew)); first | exact HO_7.out | exact Kd.P_mono HO_7.out (fun _ hk => ⟨(by first | exact hk.1 | exact fun e_ => hk.1 (e_.trans (own_len _ _ _ _ _))), (by first | exact hk.2 | exact fun e_ => hk.2 (e_.trans (own_len _ _ _ _ _)))⟩)) (Kd.R_base ho0) hb); have n2_ := Aside0.mk (Kd.R_elder' (by (with_reducible repeat (first | apply Kd.R_alloc | apply Kd.R_drewN | apply Kd.R_drew)); first | exact HO_12.out | exact Kd.R_mono HO_12.out (fun _ hk => (by first | exact hk | exact fun e_ => hk (e_.trans (own_len _ _ _ _ _))))) (Kd.R_base ho0) hb); have n3_ := Aside0.mk (Kd.R_elder' (by (with_reducible repeat (first | apply Kd.R_alloc | apply Kd.R_drewN | apply Kd.R_drew)); first | exact HO_15.out | exact Kd.R_mono HO_15.out (fun _ hk => (by first | exact hk | exact fun e_ => hk (e_.trans (own_len _ _ _ _ _))))) (Kd.R_base ho0) hb); have n4_ := Aside0.mk (Kd.R_below (by (with_reducible repeat (first | apply Kd.R_alloc | apply Kd.R_drewN | apply Kd.R_drew)); first | exact HO_17.out | exact Kd.R_mono HO_17.out (fun _ hk => (by first | exact hk | exact fun e_ => hk (e_.trans (own_len _ _ _ _ _))))) hb); have n5_ := Aside0.mk (Kd.R_lower (Kd.R_new' (Kd.R_new' ho0 (Kd.R_lt (by (with_reducible repeat (first | apply Kd.R_alloc | apply Kd.R_drewN | apply Kd.R_drew)); first | exact HO_12.out | exact Kd.R_mono HO_12.out (fun _ hk => (by first | exact hk | exact fun e_ => hk (e_.trans (own_len _ _ _ _ _))))))) (Kd.R_lt (by (with_reducible repeat (first | apply Kd.R_alloc | apply Kd.R_drewN | apply Kd.R_drew)); first | exact HO_15.out | exact Kd.R_mono HO_15.out (fun _ hk => (by first | exact hk | exact fun e_ => hk (e_.trans (own_len _ _ _ _ _))))))) (below_size (by repeat (first | (with_reducible first | exact HB.out | apply below_alloc | apply pw_below_drewN | apply below_drew1) | exact HB.out)))); have n6_ := Aside0.mk (below_step (by repeat (first | (with_reducible first | exact HB.out | apply below_alloc | apply pw_below_drewN | apply below_drew1) | exact HB.out)) hb); clear HO_0; clear HO_7; clear HO_12; clear HO_15; clear HO_17; clear HB; have HO_0 := n0_; have HO_7 := n1_; have HO_12 := n2_; have HO_15 := n3_; have HO_17 := n4_; have HO348 := n5_; have HB := n6_; clear n0_ n1_ n2_ n3_ n4_ n5_ n6_; (try clear hb); (try clear hb2); (try clear hk); (try clear hi); (try clear ho0)
                              obtain ⟨Ao111, co111, eo111⟩ := Kd.R_slice HO348.out
                              (first | subst eo111 | (injection eo111 with f1_ f2_ f3_; have f4_ := f1_.symm; have f5_ := f3_.symm; clear f1_ f2_ f3_; subst f4_; subst f5_))
                              have p349 : 0 ≤ (0 : Int) := (by omega)
                              have q349 : 0 < (t346.length : Int) := of_decide_eq_true (by first | (with_reducible assumption) | assumption)
                              obtain ⟨ad349, e349, hx349_0⟩ := Kd.at_int (Kd.R_reads' HO348.out).2.2 0 p349 q349
                              cases e349
                              have qi349 : (0 < t346.length) = True := eq_true (by omega)
                              (try rw [show ((0 : Int)).toNat = 0 from rfl] at hx349_0)
                              (try rw [Addr.add_zero'] at hx349_0)
                              replace p349 := eq_true p349; replace q349 := eq_true q349
                              refine hK.out _ _ ⟨HS0_, HS1_, HS2_⟩ (fun hHeld => ?_)
                              clear hK K
                              refine norm_ (a' := ?_) ?_ ?_
                              rotate_left
                              ·show Act.put _ (some 183) _ = _
                               simp only [Act.put, List.setIfInBounds_toArray, List.set_cons_zero, List.set_cons_succ, i64_w, i32_w]
                               rfl
                              refine pure_ (i := 17) (N := some 184) (v := ?_) (a' := ?_) #[x_, x_, x_, x_, x_, x_, x_, x_, x_, x_, x_, x_, x_, x_, x_, x_, x_, x_, o_, x_, x_, x_, o_, o_, o_, o_, o_, o_, o_, o_, o_, o_, o_, o_, o_, o_, o_, o_] rfl rfl (any_of HT_.out (by kernel_rfl)) (fun _ _ _ h => h) (Or.inl ⟨by rfl, ?_⟩) ?_ ?_; rotate_left; (·(intro w'; go_simp <;> with_reducible rfl)); rotate_left; (·(simp only [Act.put, List.setIfInBounds_toArray, List.set_cons_zero, List.set_cons_succ, i64_w, i32_w] <;> rfl))
                              refine one_ (i := 18) (N := some 185) #[true, true, true, true, true, true, true, true, true, true, true, true, true, true, true, true, true, true, true, true, true, true, false, false, false, false, false, false, false, false, false, false, false, false, false, false, false, false] rfl rfl (one_of HT_.out (by kernel_rfl)) (by decide) (fun K hK => ?_)
                              refine value_ (w1 := ?_) (v := ?_) (by rfl) rfl ?_ ?_
                              rotate_left 2
                              ·go_simp
                               constructor
                               ·rfl
                               ·rfl
                              clear hx349_0
                              refine hK.out _ _ ⟨hHeld.1, hHeld.2.1, hHeld.2.2⟩ (fun hHeld => ?_)
                              clear hK K
                              refine norm_ (a' := ?_) ?_ ?_
                              rotate_left
                              ·show Act.put _ (some 185) _ = _
                               simp only [Act.put, List.setIfInBounds_toArray, List.set_cons_zero, List.set_cons_succ, i64_w, i32_w]
                               rfl
                              refine pure_ (i := 22) (N := some 189) (v := ?_) (a' := ?_) #[x_, x_, x_, x_, x_, x_, x_, x_, x_, x_, x_, x_, x_, x_, x_, x_, x_, x_, x_, x_, x_, x_, x_, o_, o_, o_, o_, o_, o_, o_, o_, o_, o_, o_, o_, o_, o_, o_] rfl rfl (any_of HT_.out (by kernel_rfl)) (fun _ _ _ h => h) (Or.inl ⟨by rfl, ?_⟩) ?_ ?_; rotate_left; (·(intro w'; go_simp <;> with_reducible rfl)); rotate_left; (·(simp only [Act.put, List.setIfInBounds_toArray, List.set_cons_zero, List.set_cons_succ, i64_w, i32_w] <;> rfl))
                              refine pure_ (i := 23) (N := some 190) (v := ?_) (a' := ?_) #[x_, x_, x_, x_, x_, x_, x_, x_, x_, x_, x_, x_, x_, x_, x_, x_, x_, x_, x_, x_, x_, x_, x_, x_, o_, o_, o_, o_, o_, o_, o_, o_, o_, o_, o_, o_, o_, o_] rfl rfl (any_of HT_.out (by kernel_rfl)) (fun _ _ _ h => h) (Or.inl ⟨by rfl, ?_⟩) ?_ ?_; rotate_left; (·(intro w'; go_simp <;> with_reducible rfl)); rotate_left; (·(simp only [Act.put, List.setIfInBounds_toArray, List.set_cons_zero, List.set_cons_succ, i64_w, i32_w] <;> rfl))
                              refine pure_ (i := 24) (N := some 191) (v := ?_) (a' := ?_) #[x_, x_, x_, x_, x_, x_, x_, x_, x_, x_, x_, x_, x_, x_, x_, x_, x_, x_, x_, x_, x_, x_, x_, x_, x_, o_, o_, o_, o_, o_, o_, o_, o_, o_, o_, o_, o_, o_] rfl rfl (any_of HT_.out (by kernel_rfl)) (fun _ _ _ h => h) (Or.inl ⟨by rfl, ?_⟩) ?_ ?_; rotate_left; (·(intro w'; go_simp <;> with_reducible rfl)); rotate_left; (·(simp only [Act.put, List.setIfInBounds_toArray, List.set_cons_zero, List.set_cons_succ, i64_w, i32_w] <;> rfl))
                              refine pure_ (i := 25) (N := some 192) (v := ?_) (a' := ?_) #[x_, x_, x_, x_, x_, x_, x_, x_, x_, x_, x_, x_, x_, x_, x_, x_, x_, x_, x_, x_, x_, x_, x_, x_, x_, x_, o_, o_, o_, o_, o_, o_, o_, o_, o_, o_, o_, o_] rfl rfl (any_of HT_.out (by kernel_rfl)) (fun _ _ _ h => h) (Or.inl ⟨by rfl, ?_⟩) ?_ ?_; rotate_left; (·(intro w'; go_simp <;> with_reducible rfl)); rotate_left; (·(simp only [Act.put, List.setIfInBounds_toArray, List.set_cons_zero, List.set_cons_succ, i64_w, i32_w] <;> rfl))
                              refine pure_ (i := 26) (N := some 193) (v := ?_) (a' := ?_) #[x_, x_, x_, x_, x_, x_, x_, x_, x_, x_, x_, x_, x_, x_, x_, x_, x_, x_, x_, x_, x_, x_, x_, x_, x_, x_, x_, o_, o_, o_, o_, o_, o_, o_, o_, o_, o_, o_] rfl rfl (any_of HT_.out (by kernel_rfl)) (fun _ _ _ h => h) (Or.inl ⟨by rfl, ?_⟩) ?_ ?_; rotate_left; (·(intro w'; go_simp <;> with_reducible rfl)); rotate_left; (·(simp only [Act.put, List.setIfInBounds_toArray, List.set_cons_zero, List.set_cons_succ, i64_w, i32_w] <;> rfl))
                              refine pure_ (i := 27) (N := some 194) (v := ?_) (a' := ?_) #[x_, x_, x_, x_, x_, x_, x_, x_, x_, x_, x_, x_, x_, x_, x_, x_, x_, x_, x_, x_, x_, x_, x_, x_, x_, x_, x_, x_, o_, o_, o_, o_, o_, o_, o_, o_, o_, o_] rfl rfl (any_of HT_.out (by kernel_rfl)) (fun _ _ _ h => h) (Or.inl ⟨by rfl, ?_⟩) ?_ ?_; rotate_left; (·(intro w'; go_simp <;> with_reducible rfl)); rotate_left; (·(simp only [Act.put, List.setIfInBounds_toArray, List.set_cons_zero, List.set_cons_succ, i64_w, i32_w] <;> rfl))
                              refine one_ (i := 28) (N := some 195) #[true, true, true, true, true, true, true, true, true, true, true, true, true, true, true, true, true, true, true, true, true, true, true, true, true, true, true, true, true, false, false, false, false, false, false, false, false, false] rfl rfl (one_of HT_.out (by kernel_rfl)) (by decide) (fun K hK => ?_)
                              refine goes_ Try.func16 (by kernel_rfl) rfl #[.slice Ao10 t288.length co10, .int .i64 a1] (by rfl) rfl rfl (by (try simp only [List.map_toArray, List.map_cons, List.map_nil]); first | done | rfl | (simp only [List.length_drop, List.length_take]; rfl)) ?_
                              with_reducible refine (endonymref4_Ranges.calls kj78 _ _ t288 a1 t351 _ ?side1 ?side2 A102.out).mono ?_
                              (case side1 => repeat (first | exact (Kd.R_reads' HO_0.out).2.2 | (with_reducible refine Kd.C_alloc ?_ _) | (with_reducible refine Kd.C_drewN ?_ _) | (with_reducible refine Kd.C_drew ?_)))
                              (case side2 => exact (Kd.R_reads' HO_0.out).2.1)
                              rintro e w112 ⟨v352, rfl, ho0, hb⟩
                              have HS0_ := (hb.cell (World.block_lt_of_cell? _ _ (hHeld.1))).trans (hHeld.1)
                              have HS1_ := (hb.cell (World.block_lt_of_cell? _ _ (hHeld.2.1))).trans (hHeld.2.1)
                              have HS2_ := (hb.cell (World.block_lt_of_cell? _ _ (hHeld.2.2))).trans (hHeld.2.2)
                              refine ⟨_, rfl, ?_⟩; have n0_ := Aside0.mk (Kd.R_elder' (by (with_reducible repeat (first | apply Kd.R_alloc | apply Kd.R_drewN | apply Kd.R_drew)); first | exact HO_0.out | exact Kd.R_mono HO_0.out (fun _ hk => (by first | exact hk | exact fun e_ => hk (e_.trans (own_len _ _ _ _ _))))) (Kd.R_base ho0) hb); have n1_ := Aside0.mk (Kd.P_below (by (with_reducible repeat (first | apply Kd.P_alloc | apply Kd.P_drewN | apply Kd.P_drew)); first | exact HO_7.out | exact Kd.P_mono HO_7.out (fun _ hk => ⟨⟨(by first | exact hk.1.1 | exact fun e_ => hk.1.1 (e_.trans (own_len _ _ _ _ _))), (by first | exact hk.1.2 | exact fun e_ => hk.1.2 (e_.trans (own_len _ _ _ _ _)))⟩, (by first | exact hk.2 | exact fun e_ => hk.2 (e_.trans (own_len _ _ _ _ _)))⟩)) hb); have n2_ := Aside0.mk (Kd.R_below (by (with_reducible repeat (first | apply Kd.R_alloc | apply Kd.R_drewN | apply Kd.R_drew)); first | exact HO_12.out | exact Kd.R_mono HO_12.out (fun _ hk => ⟨(by first | exact hk.1 | exact fun e_ => hk.1 (e_.trans (own_len _ _ _ _ _))), (by first | exact hk.2 | exact fun e_ => hk.2 (e_.trans (own_len _ _ _ _ _)))⟩)) hb); have n3_ := Aside0.mk (Kd.R_below (by (with_reducible repeat (first | apply Kd.R_alloc | apply Kd.R_drewN | apply Kd.R_drew)); first | exact HO_15.out | exact Kd.R_mono HO_15.out (fun _ hk => ⟨(by first | exact hk.1 | exact fun e_ => hk.1 (e_.trans (own_len _ _ _ _ _))), (by first | exact hk.2 | exact fun e_ => hk.2 (e_.trans (own_len _ _ _ _ _)))⟩)) hb); have n4_ := Aside0.mk (Kd.R_elder' (by (with_reducible repeat (first | apply Kd.R_alloc | apply Kd.R_drewN | apply Kd.R_drew)); first | exact HO_17.out | exact Kd.R_mono HO_17.out (fun _ hk => (by first | exact hk | exact fun e_ => hk (e_.trans (own_len _ _ _ _ _))))) (Kd.R_base ho0) hb); have n5_ := Aside0.mk (Kd.R_below (by (with_reducible repeat (first | apply Kd.R_alloc | apply Kd.R_drewN | apply Kd.R_drew)); first | exact HO348.out | exact Kd.R_mono HO348.out (fun _ hk => ⟨⟨trivial, (by first | exact hk.1.2 | exact fun e_ => hk.1.2 (e_.trans (own_len _ _ _ _ _)))⟩, (by first | exact hk.2 | exact fun e_ => hk.2 (e_.trans (own_len _ _ _ _ _)))⟩)) hb); have n6_ := Aside0.mk (Kd.R_lower (Kd.R_new' (Kd.R_new' ho0 (Kd.R_lt (by (with_reducible repeat (first | apply Kd.R_alloc | apply Kd.R_drewN | apply Kd.R_drew)); first | exact HO_0.out | exact Kd.R_mono HO_0.out (fun _ hk => (by first | exact hk | exact fun e_ => hk (e_.trans (own_len _ _ _ _ _))))))) (Kd.R_lt (by (with_reducible repeat (first | apply Kd.R_alloc | apply Kd.R_drewN | apply Kd.R_drew)); first | exact HO_17.out | exact Kd.R_mono HO_17.out (fun _ hk => (by first | exact hk | exact fun e_ => hk (e_.trans (own_len _ _ _ _ _))))))) (below_size (by repeat (first | (with_reducible first | exact HB.out | apply below_alloc | apply pw_below_drewN | apply below_drew1) | exact HB.out)))); have n7_ := Aside0.mk (below_step (by repeat (first | (with_reducible first | exact HB.out | apply below_alloc | apply pw_below_drewN | apply below_drew1) | exact HB.out)) hb); clear HO_0; clear HO_7; clear HO_12; clear HO_15; clear HO_17; clear HO348; clear HB; have HO_0 := n0_; have HO_7 := n1_; have HO_12 := n2_; have HO_15 := n3_; have HO_17 := n4_; have HO348 := n5_; have HO353 := n6_; have HB := n7_; clear n0_ n1_ n2_ n3_ n4_ n5_ n6_ n7_; (try clear hb); (try clear hb2); (try clear hk); (try clear hi); (try clear ho0)
                              obtain ⟨Ao113, co113, eo113⟩ := Kd.R_slice HO_17.out
                              (first | subst eo113 | (injection eo113 with f1_ f2_ f3_; have f4_ := f1_.symm; have f5_ := f3_.symm; clear f1_ f2_ f3_; subst f4_; subst f5_))
                              obtain ⟨Ao114, co114, eo114⟩ := Kd.R_slice HO353.out
                              (first | subst eo114 | (injection eo114 with f1_ f2_ f3_; have f4_ := f1_.symm; have f5_ := f3_.symm; clear f1_ f2_ f3_; subst f4_; subst f5_))
                              refine hK.out _ _ ⟨HS0_, HS1_, HS2_⟩ (fun hHeld => ?_)
                              clear hK K
                              refine norm_ (a' := ?_) ?_ ?_
                              rotate_left
                              ·show Act.put _ (some 195) _ = _
                               simp only [Act.put, List.setIfInBounds_toArray, List.set_cons_zero, List.set_cons_succ, i64_w, i32_w]
                               rfl
                              refine one_ (i := 29) (N := some 196) #[true, true, true, true, true, true, true, true, true, true, true, true, true, true, true, true, true, true, true, true, true, true, true, true, true, true, true, true, true, true, false, false, false, false, false, false, false, false] rfl rfl (one_of HT_.out (by kernel_rfl)) (by decide) (fun K hK => ?_)
                              refine goes_ Try.func12 (by kernel_rfl) rfl #[.slice Ao113 t317.length co113, .slice Ao114 t351.length co114] (by rfl) rfl rfl (by (try simp only [List.map_toArray, List.map_cons, List.map_nil]); first | done | rfl | (simp only [List.length_drop, List.length_take]; rfl)) ?_
                              with_reducible refine (endonymref4_Same.calls kj78 _ _ t317 _ _ t351 true _ ?side1 ?side2 ?side3 ?side4 A103.out).mono ?_
                              (case side1 => repeat (first | exact (Kd.R_reads' HO_17.out).2.2 | (with_reducible refine Kd.C_alloc ?_ _) | (with_reducible refine Kd.C_drewN ?_ _) | (with_reducible refine Kd.C_drew ?_)))
                              (case side2 => exact (Kd.R_reads' HO_17.out).2.1)
                              (case side3 => repeat (first | exact (Kd.R_reads' HO353.out).2.2 | (with_reducible refine Kd.C_alloc ?_ _) | (with_reducible refine Kd.C_drewN ?_ _) | (with_reducible refine Kd.C_drew ?_)))
                              (case side4 => exact (Kd.R_reads' HO353.out).2.1)
                              rintro e w' ⟨rfl, ⟨nd, rfl⟩⟩
                              refine ⟨_, rfl, ?_⟩
                              refine hK.out _ _ ⟨hHeld.1, hHeld.2.1, hHeld.2.2⟩ (fun hHeld => ?_)
                              clear hK K
                              refine norm_ (a' := ?_) ?_ ?_
                              rotate_left
                              ·show Act.put _ (some 196) _ = _
                               simp only [Act.put, List.setIfInBounds_toArray, List.set_cons_zero, List.set_cons_succ, i64_w, i32_w]
                               rfl
                              refine pure_ (i := 30) (N := some 197) (v := ?_) (a' := ?_) #[x_, x_, x_, x_, x_, x_, x_, x_, x_, x_, x_, x_, x_, x_, x_, x_, x_, x_, x_, x_, x_, x_, x_, x_, x_, x_, x_, x_, x_, x_, x_, o_, o_, o_, o_, o_, o_, o_] rfl rfl (any_of HT_.out (by kernel_rfl)) (fun _ _ _ h => h) (Or.inl ⟨by rfl, ?_⟩) ?_ ?_; rotate_left; (·(intro w'; go_simp <;> with_reducible rfl)); rotate_left; (·(simp only [Act.put, List.setIfInBounds_toArray, List.set_cons_zero, List.set_cons_succ, i64_w, i32_w] <;> rfl))
                              refine pure_ (i := 31) (N := some 198) (v := ?_) (a' := ?_) #[x_, x_, x_, x_, x_, x_, x_, x_, x_, x_, x_, x_, x_, x_, x_, x_, x_, x_, x_, x_, x_, x_, x_, x_, x_, x_, x_, x_, x_, x_, x_, x_, o_, o_, o_, o_, o_, o_] rfl rfl (any_of HT_.out (by kernel_rfl)) (fun _ _ _ h => h) (Or.inl ⟨by rfl, ?_⟩) ?_ ?_; rotate_left; (·(intro w'; go_simp <;> with_reducible rfl)); rotate_left; (·(simp only [Act.put, List.setIfInBounds_toArray, List.set_cons_zero, List.set_cons_succ, i64_w, i32_w] <;> rfl))
                              refine pure_ (i := 32) (N := some 199) (v := ?_) (a' := ?_) #[x_, x_, x_, x_, x_, x_, x_, x_, x_, x_, x_, x_, x_, x_, x_, x_, x_, x_, x_, x_, x_, x_, x_, x_, x_, x_, x_, x_, x_, x_, x_, x_, x_, o_, o_, o_, o_, o_] rfl rfl (any_of HT_.out (by kernel_rfl)) (fun _ _ _ h => h) (Or.inl ⟨by rfl, ?_⟩) ?_ ?_; rotate_left; (·(intro w'; go_simp <;> with_reducible rfl)); rotate_left; (·(simp only [Act.put, List.setIfInBounds_toArray, List.set_cons_zero, List.set_cons_succ, i64_w, i32_w] <;> rfl))
                              refine pure_ (i := 34) (N := some 201) (v := ?_) (a' := ?_) #[x_, x_, x_, x_, x_, x_, x_, x_, x_, x_, x_, x_, x_, x_, x_, x_, x_, x_, x_, x_, x_, x_, x_, x_, x_, x_, x_, x_, x_, x_, x_, x_, x_, o_, x_, o_, o_, o_] rfl rfl (any_of HT_.out (by kernel_rfl)) (fun _ _ _ h => h) (Or.inl ⟨by rfl, ?_⟩) ?_ ?_; rotate_left; (·(intro w'; go_simp <;> with_reducible rfl)); rotate_left; (·(simp only [Act.put, List.setIfInBounds_toArray, List.set_cons_zero, List.set_cons_succ, i64_w, i32_w] <;> rfl))
                              refine one_ (i := 33) (N := some 200) #[true, true, true, true, true, true, true, true, true, true, true, true, true, true, true, true, true, true, true, true, true, true, true, true, true, true, true, true, true, true, true, true, true, true, true, false, false, false] rfl rfl (one_of HT_.out (by kernel_rfl)) (by decide) (fun K hK => ?_)
                              refine goes_ Try.func20 (by kernel_rfl) rfl #[.pointer Ao26] (by rfl) rfl rfl (by (try simp only [List.map_toArray, List.map_cons, List.map_nil]); first | done | rfl | (simp only [List.length_drop, List.length_take]; rfl)) ?_
                              with_reducible refine (trie_Trie_Ranges.calls kj78 _ t293 t355 _ ?side1 A105.out).mono ?_
                              (case side1 => repeat (first | exact (Kd.P_reads' HO_7.out).2.2 | (with_reducible refine Kd.PC_alloc ?_ _) | (with_reducible refine Kd.PC_drewN ?_ _) | (with_reducible refine Kd.PC_drew ?_)))
                              rintro e w115 ⟨v356, rfl, ho0, hb⟩
                              have HS0_ := (hb.cell (World.block_lt_of_cell? _ _ (hHeld.1))).trans (hHeld.1)
                              have HS1_ := (hb.cell (World.block_lt_of_cell? _ _ (hHeld.2.1))).trans (hHeld.2.1)
                              have HS2_ := (hb.cell (World.block_lt_of_cell? _ _ (hHeld.2.2))).trans (hHeld.2.2)
                              refine ⟨_, rfl, ?_⟩; have n0_ := Aside0.mk (Kd.R_elder' (by (with_reducible repeat (first | apply Kd.R_alloc | apply Kd.R_drewN | apply Kd.R_drew)); first | exact HO_0.out | exact Kd.R_mono HO_0.out (fun _ hk => ⟨(by first | exact hk.1 | exact fun e_ => hk.1 (e_.trans (own_len _ _ _ _ _))), (by first | exact hk.2 | exact fun e_ => hk.2 (e_.trans (own_len _ _ _ _ _)))⟩)) (Kd.R_base ho0) hb); have n1_ := Aside0.mk (Kd.P_below (by (with_reducible repeat (first | apply Kd.P_alloc | apply Kd.P_drewN | apply Kd.P_drew)); first | exact HO_7.out | exact Kd.P_mono HO_7.out (fun _ hk => ⟨⟨(by first | exact hk.1.1 | exact fun e_ => hk.1.1 (e_.trans (own_len _ _ _ _ _))), (by first | exact hk.1.2 | exact fun e_ => hk.1.2 (e_.trans (own_len _ _ _ _ _)))⟩, (by first | exact hk.2 | exact fun e_ => hk.2 (e_.trans (own_len _ _ _ _ _)))⟩)) hb); have n2_ := Aside0.mk (Kd.R_below (by (with_reducible repeat (first | apply Kd.R_alloc | apply Kd.R_drewN | apply Kd.R_drew)); first | exact HO_12.out | exact Kd.R_mono HO_12.out (fun _ hk => ⟨(by first | exact hk.1 | exact fun e_ => hk.1 (e_.trans (own_len _ _ _ _ _))), (by first | exact hk.2 | exact fun e_ => hk.2 (e_.trans (own_len _ _ _ _ _)))⟩)) hb); have n3_ := Aside0.mk (Kd.R_below (by (with_reducible repeat (first | apply Kd.R_alloc | apply Kd.R_drewN | apply Kd.R_drew)); first | exact HO_15.out | exact Kd.R_mono HO_15.out (fun _ hk => ⟨(by first | exact hk.1 | exact fun e_ => hk.1 (e_.trans (own_len _ _ _ _ _))), (by first | exact hk.2 | exact fun e_ => hk.2 (e_.trans (own_len _ _ _ _ _)))⟩)) hb); have n4_ := Aside0.mk (Kd.R_elder' (by (with_reducible repeat (first | apply Kd.R_alloc | apply Kd.R_drewN | apply Kd.R_drew)); first | exact HO_17.out | exact Kd.R_mono HO_17.out (fun _ hk => ⟨(by first | exact hk.1 | exact fun e_ => hk.1 (e_.trans (own_len _ _ _ _ _))), (by first | exact hk.2 | exact fun e_ => hk.2 (e_.trans (own_len _ _ _ _ _)))⟩)) (Kd.R_base ho0) hb); have n5_ := Aside0.mk (Kd.R_below (by (with_reducible repeat (first | apply Kd.R_alloc | apply Kd.R_drewN | apply Kd.R_drew)); first | exact HO348.out | exact Kd.R_mono HO348.out (fun _ hk => ⟨⟨trivial, (by first | exact hk.1.2 | exact fun e_ => hk.1.2 (e_.trans (own_len _ _ _ _ _)))⟩, (by first | exact hk.2 | exact fun e_ => hk.2 (e_.trans (own_len _ _ _ _ _)))⟩)) hb); have n6_ := Aside0.mk (Kd.R_elder' (by (with_reducible repeat (first | apply Kd.R_alloc | apply Kd.R_drewN | apply Kd.R_drew)); first | exact HO353.out | exact Kd.R_mono HO353.out (fun _ hk => ⟨⟨trivial, (by first | exact hk.1.2 | exact fun e_ => hk.1.2 (e_.trans (own_len _ _ _ _ _)))⟩, (by first | exact hk.2 | exact fun e_ => hk.2 (e_.trans (own_len _ _ _ _ _)))⟩)) (Kd.R_base ho0) hb); have n7_ := Aside0.mk (Kd.R_lower (Kd.R_new' (Kd.R_new' (Kd.R_new' ho0 (Kd.R_lt (by (with_reducible repeat (first | apply Kd.R_alloc | apply Kd.R_drewN | apply Kd.R_drew)); first | exact HO_0.out | exact Kd.R_mono HO_0.out (fun _ hk => ⟨(by first | exact hk.1 | exact fun e_ => hk.1 (e_.trans (own_len _ _ _ _ _))), (by first | exact hk.2 | exact fun e_ => hk.2 (e_.trans (own_len _ _ _ _ _)))⟩)))) (Kd.R_lt (by (with_reducible repeat (first | apply Kd.R_alloc | apply Kd.R_drewN | apply Kd.R_drew)); first | exact HO_17.out | exact Kd.R_mono HO_17.out (fun _ hk => ⟨(by first | exact hk.1 | exact fun e_ => hk.1 (e_.trans (own_len _ _ _ _ _))), (by first | exact hk.2 | exact fun e_ => hk.2 (e_.trans (own_len _ _ _ _ _)))⟩)))) (Kd.R_lt (by (with_reducible repeat (first | apply Kd.R_alloc | apply Kd.R_drewN | apply Kd.R_drew)); first | exact HO353.out | exact Kd.R_mono HO353.out (fun _ hk => ⟨⟨trivial, (by first | exact hk.1.2 | exact fun e_ => hk.1.2 (e_.trans (own_len _ _ _ _ _)))⟩, (by first | exact hk.2 | exact fun e_ => hk.2 (e_.trans (own_len _ _ _ _ _)))⟩)))) (below_size (by repeat (first | (with_reducible first | exact HB.out | apply below_alloc | apply pw_below_drewN | apply below_drew1) | exact HB.out)))); have n8_ := Aside0.mk (below_step (by repeat (first | (with_reducible first | exact HB.out | apply below_alloc | apply pw_below_drewN | apply below_drew1) | exact HB.out)) hb); clear HO_0; clear HO_7; clear HO_12; clear HO_15; clear HO_17; clear HO348; clear HO353; clear HB; have HO_0 := n0_; have HO_7 := n1_; have HO_12 := n2_; have HO_15 := n3_; have HO_17 := n4_; have HO348 := n5_; have HO353 := n6_; have HO357 := n7_; have HB := n8_; clear n0_ n1_ n2_ n3_ n4_ n5_ n6_ n7_ n8_; (try clear hb); (try clear hb2); (try clear hk); (try clear hi); (try clear ho0)
                              obtain ⟨Ao116, co116, eo116⟩ := Kd.R_slice HO357.out
                              (first | subst eo116 | (injection eo116 with f1_ f2_ f3_; have f4_ := f1_.symm; have f5_ := f3_.symm; clear f1_ f2_ f3_; subst f4_; subst f5_))
                              refine hK.out _ _ ⟨HS0_, HS1_, HS2_⟩ (fun hHeld => ?_)
                              clear hK K
                              refine norm_ (a' := ?_) ?_ ?_
                              rotate_left
                              ·show Act.put _ (some 200) _ = _
                               simp only [Act.put, List.setIfInBounds_toArray, List.set_cons_zero, List.set_cons_succ, i64_w, i32_w]
                               rfl
                              refine one_ (i := 35) (N := some 202) #[true, true, true, true, true, true, true, true, true, true, true, true, true, true, true, true, true, true, true, true, true, true, true, true, true, true, true, true, true, true, true, true, true, true, true, true, false, false] rfl rfl (one_of HT_.out (by kernel_rfl)) (by decide) (fun K hK => ?_)
                              refine goes_ Try.func12 (by kernel_rfl) rfl #[.slice Ao116 t355.length co116, .slice Ao113 t317.length co113] (by rfl) rfl rfl (by (try simp only [List.map_toArray, List.map_cons, List.map_nil]); first | done | rfl | (simp only [List.length_drop, List.length_take]; rfl)) ?_
                              with_reducible refine (endonymref4_Same.calls kj78 _ _ t355 _ _ t317 t358 _ ?side1 ?side2 ?side3 ?side4 A106.out).mono ?_
                              (case side1 => repeat (first | exact (Kd.R_reads' HO357.out).2.2 | (with_reducible refine Kd.C_alloc ?_ _) | (with_reducible refine Kd.C_drewN ?_ _) | (with_reducible refine Kd.C_drew ?_)))
                              (case side2 => exact (Kd.R_reads' HO357.out).2.1)
                              (case side3 => repeat (first | exact (Kd.R_reads' HO_17.out).2.2 | (with_reducible refine Kd.C_alloc ?_ _) | (with_reducible refine Kd.C_drewN ?_ _) | (with_reducible refine Kd.C_drew ?_)))
                              (case side4 => exact (Kd.R_reads' HO_17.out).2.1)
                              rintro e w' ⟨rfl, ⟨nd, rfl⟩⟩
                              refine ⟨_, rfl, ?_⟩
                              refine hK.out _ _ ⟨hHeld.1, hHeld.2.1, hHeld.2.2⟩ (fun hHeld => ?_)
                              clear hK K
                              refine norm_ (a' := ?_) ?_ ?_
                              rotate_left
                              ·show Act.put _ (some 202) _ = _
                               simp only [Act.put, List.setIfInBounds_toArray, List.set_cons_zero, List.set_cons_succ, i64_w, i32_w]
                               rfl
                              refine pure_ (i := 36) (N := some 203) (v := ?_) (a' := ?_) #[x_, x_, x_, x_, x_, x_, x_, x_, x_, x_, x_, x_, x_, x_, x_, x_, x_, x_, x_, x_, x_, x_, x_, x_, x_, x_, x_, x_, x_, x_, x_, x_, x_, x_, x_, x_, x_, o_] rfl rfl (any_of HT_.out (by kernel_rfl)) (fun _ _ _ h => h) (Or.inl ⟨by rfl, ?_⟩) ?_ ?_; rotate_left; (·(intro w'; go_simp <;> with_reducible rfl)); rotate_left; (·(simp only [Act.put, List.setIfInBounds_toArray, List.set_cons_zero, List.set_cons_succ, i64_w, i32_w] <;> rfl))
                              refine pure_ (i := 37) (N := some 6) (v := ?_) (a' := ?_) #[x_, x_, x_, x_, x_, x_, x_, x_, x_, x_, x_, x_, x_, x_, x_, x_, x_, x_, x_, x_, x_, x_, x_, x_, x_, x_, x_, x_, x_, x_, x_, x_, x_, x_, x_, x_, x_, x_] rfl rfl (any_of HT_.out (by kernel_rfl)) (fun _ _ _ h => h) (Or.inl ⟨by rfl, ?_⟩) ?_ ?_; rotate_left; (·(intro w'; go_simp <;> with_reducible rfl)); rotate_left; (·(simp only [Act.put, List.setIfInBounds_toArray, List.set_cons_zero, List.set_cons_succ, i64_w, i32_w] <;> rfl))
                              refine done_ (done_of HT_.out (by kernel_rfl)) ?_
                              try go_wp2
                              go_ret
                              exact ⟨by first | rfl | (rw [← hR_]; first | rfl | (simp only [hR_]; rfl)) | (simp only [hR_]; rfl) | (simp only [hR_]; done) | (simp [errW_none, errW_some] <;> rfl) | (simp [*, errW_none, errW_some] <;> rfl), by repeat (first | (with_reducible first | exact HB.out | apply below_alloc | apply pw_below_drewN | apply below_drew1) | exact HB.out)⟩
                             ·replace c104 := Bool.eq_false_iff.mpr c104
                              subst c104
                              have H1 : (some false) = some true := by rw [if_neg (show ¬ (false = true) by decide)] at H; exact H
                              clear H; have H := H1; clear H1
                              exact absurd H (by simp)
                            ·rw [if_neg c101] at H
                             have c101b0 : ((rd t346 0) == (rd t302 0)) = false := beq_eq_false_iff_ne.mpr c101
                             have c101b1 : ((rd t346 0) != (rd t302 0)) = true := bne_iff_ne.mpr c101
                             exact absurd H (by simp)
                           ·rw [if_neg c100] at H
                            exact absurd H (by simp)
                          ·rw [if_neg c99] at H
                           exact absurd H (by simp)
                         ·rw [if_neg c97] at H
                          have c97b0 : ((rd t311 17407) == (rd t302 17407)) = false := beq_eq_false_iff_ne.mpr c97
                          have c97b1 : ((rd t311 17407) != (rd t302 17407)) = true := bne_iff_ne.mpr c97
                          exact absurd H (by simp)
                        ·rw [if_neg c96] at H
                         exact absurd H (by simp)
                       ·rw [if_neg c95] at H
                        exact absurd H (by simp)
                      ·rw [if_neg c94] at H
                       have c94b0 : ((t311.length : Int) == (t302.length : Int)) = false := beq_eq_false_iff_ne.mpr c94
                       have c94b1 : ((t311.length : Int) != (t302.length : Int)) = true := bne_iff_ne.mpr c94
                       have c94b2 : (t311.length == t302.length) = false := by first | simpa using c94 | (simp at c94 ⊢; omega)
                       exact absurd H (by simp)
 ·rw [if_neg c7] at H
  have c7b0 : (t299 == 0) = false := beq_eq_false_iff_ne.mpr c7
  have c7b1 : (t299 != 0) = true := bne_iff_ne.mpr c7
  replace H := Option.bind_eq_some_iff.mp H
  obtain ⟨t300, A1170, H⟩ := H
  replace H : (if t300 = true then (some (t295 == t299)) else (some false)) = some true := H
  have A117 := Aside0.mk A1170
  clear A1170
  by_cases c118 : t300 = true
  ·subst c118
   have H1 : (some (t295 == t299)) = some true := by rw [if_pos rfl] at H; exact H
   clear H; have H := H1; clear H1
   have hR_ := Option.some.inj H
   go_enter Try.func5, Try.ntmps5
   try go_wp2_with (first | ((with_reducible refine gate_callee (f := 8) rfl ?_); refine goesL_ (some 27) rfl rfl Try.func8 (by kernel_rfl) rfl #[.slice A0 l0.length c0] rfl (by (try simp only [List.map_toArray, List.map_cons, List.map_nil]); first | done | rfl | (simp only [List.length_drop, List.length_take]; rfl)) ?_; (with_reducible refine (endonymlaw4_few.calls _ _ l0 t287 t288 _ ?side1 ?side2 A4.out).mono ?_); (case side1 => repeat (first | exact HR0.out | (with_reducible refine Kd.C_alloc ?_ _) | (with_reducible refine Kd.C_drewN ?_ _) | (with_reducible refine Kd.C_drew ?_))); (case side2 => exact HC0.out); rintro e w119 ⟨v289, v291, rfl, ho0, ho1, hb⟩; refine ⟨_, rfl, ?_⟩; have n0_ := Aside0.mk (Kd.R_lower ho0 (below_size (by repeat (first | (with_reducible first | exact HB.out | apply below_alloc | apply pw_below_drewN | apply below_drew1) | exact HB.out)))); have n1_ := Aside0.mk (Kd.R_lower ho1 (below_size (by repeat (first | (with_reducible first | exact HB.out | apply below_alloc | apply pw_below_drewN | apply below_drew1) | exact HB.out)))); have n2_ := Aside0.mk (below_step (by repeat (first | (with_reducible first | exact HB.out | apply below_alloc | apply pw_below_drewN | apply below_drew1) | exact HB.out)) hb); clear HB; have HO290 := n0_; have HO292 := n1_; have HB := n2_; clear n0_ n1_ n2_; (try clear hb); (try clear hb2); (try clear hk); (try clear hi); (try clear ho0); (try clear ho1); obtain ⟨Ao120, co120, eo120⟩ := Kd.R_slice HO292.out; subst eo120) | ((with_reducible refine gate_callee (f := 9) rfl ?_); refine goesL_ (some 33) rfl rfl Try.func9 (by kernel_rfl) rfl #[.slice Ao120 t288.length co120, .int .i64 a1] rfl (by (try simp only [List.map_toArray, List.map_cons, List.map_nil]); first | done | rfl | (simp only [List.length_drop, List.length_take]; rfl)) ?_; (with_reducible refine (trie_Build.calls k _ _ t288 a1 t293 t294 t295 _ ?side1 ?side2 A5.out).mono ?_); (case side1 => repeat (first | exact (Kd.R_reads' HO292.out).2.2 | (with_reducible refine Kd.C_alloc ?_ _) | (with_reducible refine Kd.C_drewN ?_ _) | (with_reducible refine Kd.C_drew ?_))); (case side2 => exact (Kd.R_reads' HO292.out).2.1); rintro e w121 ⟨v296, rfl, ho0, hb⟩; refine ⟨_, rfl, ?_⟩; have n0_ := Aside0.mk (Kd.R_below (by (with_reducible repeat (first | apply Kd.R_alloc | apply Kd.R_drewN | apply Kd.R_drew)); first | exact HO290.out | exact Kd.R_mono HO290.out (fun _ hk => (by first | exact hk | exact fun e_ => hk (e_.trans (own_len _ _ _ _ _))))) hb); have n1_ := Aside0.mk (Kd.R_below (by (with_reducible repeat (first | apply Kd.R_alloc | apply Kd.R_drewN | apply Kd.R_drew)); first | exact HO292.out | exact Kd.R_mono HO292.out (fun _ hk => (by first | exact hk | exact fun e_ => hk (e_.trans (own_len _ _ _ _ _))))) hb); have n2_ := Aside0.mk (Kd.P_lower ho0 (below_size (by repeat (first | (with_reducible first | exact HB.out | apply below_alloc | apply pw_below_drewN | apply below_drew1) | exact HB.out)))); have n3_ := Aside0.mk (below_step (by repeat (first | (with_reducible first | exact HB.out | apply below_alloc | apply pw_below_drewN | apply below_drew1) | exact HB.out)) hb); clear HO290; clear HO292; clear HB; have HO290 := n0_; have HO292 := n1_; have HO297 := n2_; have HB := n3_; clear n0_ n1_ n2_ n3_; (try clear hb); (try clear hb2); (try clear hk); (try clear hi); (try clear ho0)) | ((with_reducible refine gate_callee (f := 10) rfl ?_); refine goesL_ (some 40) rfl rfl Try.func10 (by kernel_rfl) rfl #[.slice Ao120 t288.length co120, .int .i64 a1] rfl (by (try simp only [List.map_toArray, List.map_cons, List.map_nil]); first | done | rfl | (simp only [List.length_drop, List.length_take]; rfl)) ?_; (with_reducible refine (endonymref4_Check.calls k _ _ t288 a1 t298 t299 _ ?side1 ?side2 A6.out).mono ?_); (case side1 => repeat (first | exact (Kd.R_reads' HO292.out).2.2 | (with_reducible refine Kd.C_alloc ?_ _) | (with_reducible refine Kd.C_drewN ?_ _) | (with_reducible refine Kd.C_drew ?_))); (case side2 => exact (Kd.R_reads' HO292.out).2.1); rintro e w122 ⟨rfl, hb⟩; refine ⟨_, rfl, ?_⟩; have n0_ := Aside0.mk (Kd.R_below (by (with_reducible repeat (first | apply Kd.R_alloc | apply Kd.R_drewN | apply Kd.R_drew)); first | exact HO290.out | exact Kd.R_mono HO290.out (fun _ hk => (by first | exact hk | exact fun e_ => hk (e_.trans (own_len _ _ _ _ _))))) hb); have n1_ := Aside0.mk (Kd.R_below (by (with_reducible repeat (first | apply Kd.R_alloc | apply Kd.R_drewN | apply Kd.R_drew)); first | exact HO292.out | exact Kd.R_mono HO292.out (fun _ hk => (by first | exact hk | exact fun e_ => hk (e_.trans (own_len _ _ _ _ _))))) hb); have n2_ := Aside0.mk (Kd.P_below (by (with_reducible repeat (first | apply Kd.P_alloc | apply Kd.P_drewN | apply Kd.P_drew)); exact HO297.out) hb); have n3_ := Aside0.mk (below_step (by repeat (first | (with_reducible first | exact HB.out | apply below_alloc | apply pw_below_drewN | apply below_drew1) | exact HB.out)) hb); clear HO290; clear HO292; clear HO297; clear HB; have HO290 := n0_; have HO292 := n1_; have HO297 := n2_; have HB := n3_; clear n0_ n1_ n2_ n3_; (try clear hb); (try clear hb2); (try clear hk); (try clear hi)) | ((with_reducible refine gate_callee (f := 11) rfl ?_); refine goesL_ (some 45) rfl rfl Try.func11 (by kernel_rfl) rfl #[] rfl (by (try simp only [List.map_toArray, List.map_cons, List.map_nil]); first | done | rfl | (simp only [List.length_drop, List.length_take]; rfl)) ?_; (with_reducible refine (endonymlaw4_told.calls k  true _ A117.out).mono ?_); rintro e w123 ⟨rfl, hb⟩; refine ⟨_, rfl, ?_⟩; have n0_ := Aside0.mk (Kd.R_below (by (with_reducible repeat (first | apply Kd.R_alloc | apply Kd.R_drewN | apply Kd.R_drew)); first | exact HO290.out | exact Kd.R_mono HO290.out (fun _ hk => (by first | exact hk | exact fun e_ => hk (e_.trans (own_len _ _ _ _ _))))) hb); have n1_ := Aside0.mk (Kd.R_below (by (with_reducible repeat (first | apply Kd.R_alloc | apply Kd.R_drewN | apply Kd.R_drew)); first | exact HO292.out | exact Kd.R_mono HO292.out (fun _ hk => (by first | exact hk | exact fun e_ => hk (e_.trans (own_len _ _ _ _ _))))) hb); have n2_ := Aside0.mk (Kd.P_below (by (with_reducible repeat (first | apply Kd.P_alloc | apply Kd.P_drewN | apply Kd.P_drew)); exact HO297.out) hb); have n3_ := Aside0.mk (below_step (by repeat (first | (with_reducible first | exact HB.out | apply below_alloc | apply pw_below_drewN | apply below_drew1) | exact HB.out)) hb); clear HO290; clear HO292; clear HO297; clear HB; have HO290 := n0_; have HO292 := n1_; have HO297 := n2_; have HB := n3_; clear n0_ n1_ n2_ n3_; (try clear hb); (try clear hb2); (try clear hk); (try clear hi)))
   go_ret
   exact ⟨by first | rfl | (rw [← hR_]; first | rfl | (simp only [hR_]; rfl)) | (simp only [hR_]; rfl) | (simp only [hR_]; done) | (simp [errW_none, errW_some] <;> rfl) | (simp [*, errW_none, errW_some] <;> rfl), by repeat (first | (with_reducible first | exact HB.out | apply below_alloc | apply pw_below_drewN | apply below_drew1) | exact HB.out)⟩
  ·replace c118 := Bool.eq_false_iff.mpr c118
   subst c118
   have H1 : (some false) = some true := by rw [if_neg (show ¬ (false = true) by decide)] at H; exact H
   clear H; have H := H1; clear H1
   exact absurd H (by simp)

/-- THE ONE PURE STATEMENT of endonymlaw4_TrieBlocks: yours. -/
def endonymlaw4_TrieBlocks.Pure : Prop := ∀ (l0 : List (S35)) (a1 : Int) (a2 : Int), l0.length ≤ maxLen → l0.length * 24 ≤ 140737488351232 → (∀ x ∈ l0, S35.wf x) → (Lit.int .i64 a1).wf = true → (Lit.int .i64 a2).wf = true → ∃ k, endonymlaw4_TrieBlocks.f k l0 a1 a2 = some true
theorem endonymlaw4_TrieBlocks.walk (P : endonymlaw4_TrieBlocks.Pure) (a0 : Option Addr) (len0 cap0 : Nat) (l0 : List (S35)) (a1 : Int) (a2 : Int) (w : World) (w0 : l0.length = len0 ∧ len0 ≤ cap0 ∧ Kd.C k35 w a0 len0 l0 ∧ l0.length * 24 ≤ 140737488351232 ∧ ∀ x ∈ l0, S35.wf x) (w1 : (Lit.int .i64 a1).wf = true) (w2 : (Lit.int .i64 a2).wf = true) :
  Calls Try.prog 5 #[.slice a0 len0 cap0, .int .i64 a1, .int .i64 a2] w fun e w' => e = .returned (.bool true) ∧ Below w.heap.size w w' := by
 obtain ⟨rfl, hc0, hr0, y0, hw0⟩ := w0
 have hm0 : l0.length ≤ maxLen := hr0.2.1
 obtain ⟨k, h⟩ := P l0 a1 a2 hm0 y0 hw0 w1 w2
 refine (endonymlaw4_TrieBlocks.calls k _ _ l0 a1 a2 w hr0 hc0 h).mono ?_
 rintro e w' ⟨rfl, hd⟩
 exact ⟨rfl, hd⟩

end Go.Proofs.Ytiaodapgankjnaa.Q
