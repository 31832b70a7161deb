/- Plain law: a record more of another kind. -/
import Derived.Test.YtcpdnpaedkcebaaPg
namespace Go.Proofs.Ytcpdnpaedkcebaa.V
open Go Go.RowKit
set_option linter.unusedVariables false
set_option linter.unusedSimpArgs false
theorem alike_more (l : List Rec) {r : Rec} (h : 4 ≤ famK r.kind) : Alike (l ++ [r]) l := by
  intro f c hf
  unfold hit
  split
  · rfl
  · rw [List.find?_append]
    have : [r].find? (fun r => decide (famK r.kind = f) && speaksR r c) = none := by
      rw [List.find?_singleton, if_neg]
      simp only [Bool.and_eq_true, decide_eq_true_eq]
      omega
    rw [this, Option.or_none]
theorem rights_more (r : Rec) : ∀ (l : List Rec) (i : Int) (x : Int × Int), rightsP l i = some x → rightsP (l ++ [r]) i = some x
  | a :: l, i, x, h => by
    rw [List.cons_append, rightsP]
    rw [rightsP] at h
    split at h
    · rename_i h2; rw [if_pos h2]; exact h
    · rename_i h2; rw [if_neg h2]; exact rights_more r l _ x h
theorem twice_more (r : Rec) : ∀ (s p : List Rec) (i x : Int), twiceP p s i = some x → twiceP p (s ++ [r]) i = some x
  | a :: l, p, i, x, h => by
    rw [List.cons_append, twiceP]
    rw [twiceP] at h
    split at h
    · rename_i h2; rw [if_pos h2]; exact h
    · rename_i h2; rw [if_neg h2]; exact twice_more r l _ _ x h
theorem rights_ne : ∀ (l : List Rec) (i : Int) (x : Int × Int), rightsP l i = some x → x.2 ≠ 0
  | r :: l, i, x, h => by
    rw [rightsP] at h
    split at h
    · rename_i h2; cases h; exact h2
    · exact rights_ne l _ x h
theorem check_more {l : List Rec} {r : Rec} (h : (checkP l).2 ≠ 0) : (checkP (l ++ [r])).2 ≠ 0 := by
  unfold checkP at *
  rw [List.length_append, List.length_singleton]
  by_cases h1 : 4096 < l.length + 1
  · rw [if_pos h1]; simp
  rw [if_neg h1]
  rw [if_neg (by omega)] at h
  cases hr : rightsP l 0 with
  | some x => rw [rights_more r l 0 x hr]; exact rights_ne l 0 x hr
  | none =>
    rw [hr] at h
    cases ht : twiceP [] l 0 with
    | none => rw [ht] at h; simp at h
    | some x =>
      cases hr2 : rightsP (l ++ [r]) 0 with
      | some y => exact rights_ne _ 0 y hr2
      | none => rw [twice_more r l [] 0 x ht]; simp
theorem wrongs_cong {l m : List Rec} (h : Alike l m) : ∀ (s : List Rec) (seen : List (Int × Int)) (i : Int), wrongsP l seen s i = wrongsP m seen s i
  | [], _, _ => rfl
  | r :: s, seen, i => by
    have ih := wrongs_cong h s
    rw [wrongsP, wrongsP, h.wrong]
    simp only [ih]
theorem wrongs_more {l : List Rec} {r : Rec} (h0 : wrongP l r = 0) (hk : r.kind ≠ 7) : ∀ (s : List Rec) (seen : List (Int × Int)) (i : Int), wrongsP l seen (s ++ [r]) i = wrongsP l seen s i
  | [], seen, i => by
    show wrongsP l seen (r :: []) i = none
    rw [wrongsP, if_neg (by rw [h0]; simp), if_neg hk]
    rfl
  | a :: s, seen, i => by
    have ih := wrongs_more h0 hk s
    rw [List.cons_append, wrongsP, wrongsP]
    simp only [ih]
theorem wrongs_lt {l : List Rec} : ∀ (s : List Rec) (seen : List (Int × Int)) (i : Int) (x : Int × Int), wrongsP l seen s i = some x → x.1 < i + s.length
  | r :: s, seen, i, x, h => by
    rw [wrongsP] at h
    have e : ((r :: s).length : Int) = s.length + 1 := by simp
    split at h
    · cases h; simp only; omega
    · split at h
      · split at h
        · split at h
          · cases h; simp only; omega
          · have := wrongs_lt s _ _ x h; omega
        · cases h
      · have := wrongs_lt s _ _ x h; omega
theorem canon_rest {l : List Rec} (h : (checkP l).2 = 0) : canonP l = match wrongsP l [] l 0 with
    | some x => x
    | none => if plainsP l abc.data.toList = true ∧ plainsP l digits.data.toList = true then (0, 0) else (l.length, 70) := by
  unfold canonP
  rw [if_neg (by rw [h]; simp)]
  rfl
/-- What CanonOther says. -/
theorem canon_more {l : List Rec} {r : Rec} (h : 4 ≤ famK r.kind) (h1 : (checkP l).2 = 0) (h2 : (checkP (l ++ [r])).2 = 0) :
    (canonP l).2 = (canonP (l ++ [r])).2 ∧ ((canonP l).2 = 0 ∨ (if (canonP l).1 = l.length then (canonP l).1 + 1 else (canonP l).1) = (canonP (l ++ [r])).1) := by
  have ha := alike_more l h
  have hk : r.kind ≠ 7 := fun hk => by rw [hk] at h; revert h; decide
  have h0 : wrongP l r = 0 := by unfold wrongP; rw [if_pos (by omega)]
  have hw : wrongsP (l ++ [r]) [] (l ++ [r]) 0 = wrongsP l [] l 0 := by rw [wrongs_cong ha, wrongs_more h0 hk]
  rw [canon_rest h1, canon_rest h2, hw, ha.plains, ha.plains]
  cases hx : wrongsP l [] l 0 with
  | some x =>
    have := wrongs_lt l [] 0 x hx
    refine ⟨rfl, .inr ?_⟩
    simp only
    rw [if_neg (by omega)]
  | none =>
    simp only
    by_cases hp : plainsP l abc.data.toList = true ∧ plainsP l digits.data.toList = true
    · simp only [if_pos hp]; exact ⟨trivial, .inl trivial⟩
    · simp only [if_neg hp]
      refine ⟨trivial, .inr ?_⟩
      simp
end Go.Proofs.Ytcpdnpaedkcebaa.V
