/- Contracts: the law CanonOther. -/
import Derived.Test.YtcpdnpaedkcebaaXs
import Derived.Test.YtcpdnpaedkcebaaPg
namespace Go.Proofs.Ytcpdnpaedkcebaa.V
open Go Go.RowKit
set_option linter.unusedVariables false
set_option linter.unusedSimpArgs false
set_option maxRecDepth 100000
/- endonym/endonymlaw7.CanonOther -/
def b8 : IC := (.seq (.reg [⟨(some 3), 1, none, .box (.t 1)⟩,
  ⟨(some 4), 0, none, .mv (.c (.bool false))⟩]) (.seq (.reg [⟨(some 15), 0, none, .mv (.t 0)⟩,
  ⟨(some 16), 2, none, .call (.c (.fn 14)) [((.t 15), .view 8), ((.c (.int .i64 120)), .plain)]⟩,
  ⟨(some 5), 0, none, .mv (.t 16)⟩]) (.seq (.seq (.reg [⟨(some 17), 0, none, .fa (.t 3) 0⟩,
  ⟨(some 18), 0, none, .ld (.t 17) none⟩,
  ⟨(some 19), 12, none, .call (.c (.fn 28)) [((.t 18), .plain)]⟩,
  ⟨(some 20), 0, none, .bin .lss (.t 19) (.c (.int .i64 4))⟩]) (.cond (.t 20) (.reg [⟨(some 21), 0, none, .bld [(.int .i64 0), (.int .i64 0), (.int .i64 0), (.int .i64 0), (.sl 1 []), (.str ⟨#[]⟩), (.str ⟨#[]⟩), (.flt 0)] [(0, (.c (.int .i64 11))), (1, (.c (.int .i64 983040))), (2, (.c (.int .i64 983041)))]⟩,
  ⟨none, 0, none, .st (.t 3) (.t 21) (some 8)⟩]) .skip)) (.seq (.draw (.take 0 ⟨(some 22), 0, none, .mv (.t 5)⟩ (.take 2 ⟨(some 24), 0, none, .ld (.t 3) (some 8)⟩ (.br 1 ⟨(some 23), 22, none, .call (.c (.fn 29)) [((.t 22), .view 8)]⟩ [true, false] (.br 3 ⟨(some 25), 32, none, .bsl 8 [(.t 24)]⟩ [false] (.br 4 ⟨(some 26), 33, none, .app (.t 23) (.t 25) 8 96 false⟩ [] (.take 5 ⟨(some 6), 0, none, .mv (.t 26)⟩ .done) .no) .no) (.br 3 ⟨(some 25), 32, none, .bsl 8 [(.t 24)]⟩ [false, true] (.br 1 ⟨(some 23), 22, none, .call (.c (.fn 29)) [((.t 22), .view 8)]⟩ [false] (.br 4 ⟨(some 26), 33, none, .app (.t 23) (.t 25) 8 96 false⟩ [] (.take 5 ⟨(some 6), 0, none, .mv (.t 26)⟩ .done) .no) .no) .no))))) (.seq (.reg [⟨(some 28), 0, none, .mv (.t 5)⟩,
  ⟨(some 29), 34, none, .call (.c (.fn 30)) [((.t 28), .view 8)]⟩,
  ⟨(some 27), 0, none, .mv (.t 29)⟩,
  ⟨(some 30), 0, none, .ext (.t 27) 0⟩,
  ⟨(some 31), 0, none, .ext (.t 27) 1⟩,
  ⟨(some 7), 0, none, .mv (.t 30)⟩,
  ⟨(some 8), 0, none, .mv (.t 31)⟩]) (.seq (.reg [⟨(some 33), 0, none, .mv (.t 6)⟩,
  ⟨(some 34), 44, none, .call (.c (.fn 30)) [((.t 33), .view 8)]⟩,
  ⟨(some 32), 0, none, .mv (.t 34)⟩,
  ⟨(some 35), 0, none, .ext (.t 32) 0⟩,
  ⟨(some 36), 0, none, .ext (.t 32) 1⟩,
  ⟨(some 9), 0, none, .mv (.t 35)⟩,
  ⟨(some 10), 0, none, .mv (.t 36)⟩]) (.seq (.seq (.reg [⟨(some 37), 0, none, .mv (.t 8)⟩,
  ⟨(some 38), 0, none, .bin .neq (.t 37) (.c (.int .i64 0))⟩,
  ⟨(some 39), 0, none, .mv (.t 38)⟩,
  ⟨(some 40), 0, (some (39, false)), .mv (.t 10)⟩,
  ⟨(some 41), 0, (some (39, false)), .bin .neq (.t 40) (.c (.int .i64 0))⟩,
  ⟨(some 42), 0, none, .pick (.t 39) (.c (.bool true)) (.t 41)⟩]) (.cond (.t 42) (.seq (.reg [⟨(some 43), 54, none, .call (.c (.fn 22)) []⟩,
  ⟨(some 44), 0, none, .mv (.t 43)⟩,
  ⟨(some 45), 0, (some (44, true)), .mv (.t 8)⟩,
  ⟨(some 46), 0, (some (44, true)), .bin .eql (.t 45) (.c (.int .i64 0))⟩,
  ⟨(some 47), 0, (some (44, true)), .mv (.t 46)⟩,
  ⟨(some 48), 0, (some (47, false)), .mv (.t 10)⟩,
  ⟨(some 49), 0, (some (47, false)), .bin .neq (.t 48) (.c (.int .i64 0))⟩,
  ⟨(some 50), 0, (some (44, true)), .pick (.t 47) (.c (.bool true)) (.t 49)⟩,
  ⟨(some 51), 0, none, .pick (.t 44) (.t 50) (.c (.bool false))⟩,
  ⟨(some 4), 0, none, .mv (.t 51)⟩]) .ret) .skip)) (.seq (.reg [⟨(some 53), 0, none, .mv (.t 5)⟩,
  ⟨(some 54), 64, none, .call (.c (.fn 26)) [((.t 53), .view 8)]⟩,
  ⟨(some 52), 0, none, .mv (.t 54)⟩,
  ⟨(some 55), 0, none, .ext (.t 52) 0⟩,
  ⟨(some 56), 0, none, .ext (.t 52) 1⟩,
  ⟨(some 11), 0, none, .mv (.t 55)⟩,
  ⟨(some 12), 0, none, .mv (.t 56)⟩]) (.seq (.reg [⟨(some 58), 0, none, .mv (.t 6)⟩,
  ⟨(some 59), 74, none, .call (.c (.fn 26)) [((.t 58), .view 8)]⟩,
  ⟨(some 57), 0, none, .mv (.t 59)⟩,
  ⟨(some 60), 0, none, .ext (.t 57) 0⟩,
  ⟨(some 61), 0, none, .ext (.t 57) 1⟩,
  ⟨(some 13), 0, none, .mv (.t 60)⟩,
  ⟨(some 14), 0, none, .mv (.t 61)⟩]) (.seq (.seq (.reg [⟨(some 62), 0, none, .mv (.t 11)⟩,
  ⟨(some 63), 0, none, .mv (.t 5)⟩,
  ⟨(some 64), 0, none, .len false (.t 63)⟩,
  ⟨(some 65), 0, none, .bin .eql (.t 62) (.t 64)⟩]) (.cond (.t 65) (.reg [⟨(some 66), 0, none, .mv (.t 11)⟩,
  ⟨(some 67), 0, none, .bin .add (.t 66) (.c (.int .i64 1))⟩,
  ⟨(some 11), 0, none, .mv (.t 67)⟩]) .skip)) (.seq (.reg [⟨(some 68), 84, none, .call (.c (.fn 22)) []⟩,
  ⟨(some 69), 0, none, .mv (.t 68)⟩,
  ⟨(some 70), 0, (some (69, true)), .mv (.t 12)⟩,
  ⟨(some 71), 0, (some (69, true)), .mv (.t 14)⟩,
  ⟨(some 72), 0, (some (69, true)), .bin .eql (.t 70) (.t 71)⟩,
  ⟨(some 73), 0, none, .pick (.t 69) (.t 72) (.c (.bool false))⟩,
  ⟨(some 74), 0, none, .mv (.t 73)⟩,
  ⟨(some 75), 0, (some (74, true)), .mv (.t 12)⟩,
  ⟨(some 76), 0, (some (74, true)), .bin .eql (.t 75) (.c (.int .i64 0))⟩,
  ⟨(some 77), 0, (some (74, true)), .mv (.t 76)⟩,
  ⟨(some 78), 0, (some (77, false)), .mv (.t 11)⟩,
  ⟨(some 79), 0, (some (77, false)), .mv (.t 13)⟩,
  ⟨(some 80), 0, (some (77, false)), .bin .eql (.t 78) (.t 79)⟩,
  ⟨(some 81), 0, (some (74, true)), .pick (.t 77) (.c (.bool true)) (.t 80)⟩,
  ⟨(some 82), 0, none, .pick (.t 74) (.t 81) (.c (.bool false))⟩,
  ⟨(some 4), 0, none, .mv (.t 82)⟩]) .ret)))))))))))
def rs8 : List (Nat × Option Nat × Mode) := [(4, none, .plain)]
theorem chk8 : chkC Try.prog Try.f8.ntmps b8 (Try.f8.body.getD .skip) = true := by decide +kernel
theorem top8 {args : List Arg} {out : Out} (ha : args.length.ble Try.f8.ntmps = true) (h8 : args.length.ble 8 = true) (mss : List (List (Option Nat))) (hb : backOK args out.back)
    (hw : rnC Try.prog b8 (topQ rs8 args mss out) (slotsOf (argsAV argBase args 0) 0) (argsOb argBase args 0)) : CW Try.prog 8 args out :=
  CW.of Try.func8 rs8 mss (by decide +kernel) (by decide +kernel) (by decide +kernel) ha h8 chk8 hb hw
theorem alike_more (l : List Rec) {r : Rec} (h : 4 ≤ famK r.kind) : Alike (l ++ [r]) l := by
  intro f c hf
  unfold hit
  split
  · rfl
  · rw [List.find?_append]
    have : [r].find? (fun r => decide (famK r.kind = f) && speaksR r c) = none := by
      rw [List.find?_singleton, if_neg]
      simp only [Bool.and_eq_true, decide_eq_true_eq]
      omega
    rw [this, Option.or_none]
theorem rights_more (r : Rec) : ∀ (l : List Rec) (i : Int) (x : Int × Int), rightsP l i = some x → rightsP (l ++ [r]) i = some x
  | a :: l, i, x, h => by
    rw [List.cons_append, rightsP]
    rw [rightsP] at h
    split at h
    · rename_i h2; rw [if_pos h2]; exact h
    · rename_i h2; rw [if_neg h2]; exact rights_more r l _ x h
theorem twice_more (r : Rec) : ∀ (s p : List Rec) (i x : Int), twiceP p s i = some x → twiceP p (s ++ [r]) i = some x
  | a :: l, p, i, x, h => by
    rw [List.cons_append, twiceP]
    rw [twiceP] at h
    split at h
    · rename_i h2; rw [if_pos h2]; exact h
    · rename_i h2; rw [if_neg h2]; exact twice_more r l _ _ x h
theorem rights_ne : ∀ (l : List Rec) (i : Int) (x : Int × Int), rightsP l i = some x → x.2 ≠ 0
  | r :: l, i, x, h => by
    rw [rightsP] at h
    split at h
    · rename_i h2; cases h; exact h2
    · exact rights_ne l _ x h
theorem check_more {l : List Rec} {r : Rec} (h : (checkP l).2 ≠ 0) : (checkP (l ++ [r])).2 ≠ 0 := by
  unfold checkP at *
  rw [List.length_append, List.length_singleton]
  by_cases h1 : 4096 < l.length + 1
  · rw [if_pos h1]; simp
  rw [if_neg h1]
  rw [if_neg (by omega)] at h
  cases hr : rightsP l 0 with
  | some x => rw [rights_more r l 0 x hr]; exact rights_ne l 0 x hr
  | none =>
    rw [hr] at h
    cases ht : twiceP [] l 0 with
    | none => rw [ht] at h; simp at h
    | some x =>
      cases hr2 : rightsP (l ++ [r]) 0 with
      | some y => exact rights_ne _ 0 y hr2
      | none => rw [twice_more r l [] 0 x ht]; simp
theorem wrongs_cong {l m : List Rec} (h : Alike l m) : ∀ (s : List Rec) (seen : List (Int × Int)) (i : Int), wrongsP l seen s i = wrongsP m seen s i
  | [], _, _ => rfl
  | r :: s, seen, i => by
    have ih := wrongs_cong h s
    rw [wrongsP, wrongsP, h.wrong]
    simp only [ih]
theorem wrongs_more {l : List Rec} {r : Rec} (h0 : wrongP l r = 0) (hk : r.kind ≠ 7) : ∀ (s : List Rec) (seen : List (Int × Int)) (i : Int), wrongsP l seen (s ++ [r]) i = wrongsP l seen s i
  | [], seen, i => by
    show wrongsP l seen (r :: []) i = none
    rw [wrongsP, if_neg (by rw [h0]; simp), if_neg hk]
    rfl
  | a :: s, seen, i => by
    have ih := wrongs_more h0 hk s
    rw [List.cons_append, wrongsP, wrongsP]
    simp only [ih]
theorem wrongs_lt {l : List Rec} : ∀ (s : List Rec) (seen : List (Int × Int)) (i : Int) (x : Int × Int), wrongsP l seen s i = some x → x.1 < i + s.length
  | r :: s, seen, i, x, h => by
    rw [wrongsP] at h
    have e : ((r :: s).length : Int) = s.length + 1 := by simp
    split at h
    · cases h; simp only; omega
    · split at h
      · split at h
        · split at h
          · cases h; simp only; omega
          · have := wrongs_lt s _ _ x h; omega
        · cases h
      · have := wrongs_lt s _ _ x h; omega
theorem canon_rest {l : List Rec} (h : (checkP l).2 = 0) : canonP l = match wrongsP l [] l 0 with
    | some x => x
    | none => if plainsP l abc.data.toList = true ∧ plainsP l digits.data.toList = true then (0, 0) else (l.length, 70) := by
  unfold canonP
  rw [if_neg (by rw [h]; simp)]
  rfl
/-- What CanonOther says. -/
theorem canon_more {l : List Rec} {r : Rec} (h : 4 ≤ famK r.kind) (h1 : (checkP l).2 = 0) (h2 : (checkP (l ++ [r])).2 = 0) :
    (canonP l).2 = (canonP (l ++ [r])).2 ∧ ((canonP l).2 = 0 ∨ (if (canonP l).1 = l.length then (canonP l).1 + 1 else (canonP l).1) = (canonP (l ++ [r])).1) := by
  have ha := alike_more l h
  have hk : r.kind ≠ 7 := fun hk => by rw [hk] at h; revert h; decide
  have h0 : wrongP l r = 0 := by unfold wrongP; rw [if_pos (by omega)]
  have hw : wrongsP (l ++ [r]) [] (l ++ [r]) 0 = wrongsP l [] l 0 := by rw [wrongs_cong ha, wrongs_more h0 hk]
  rw [canon_rest h1, canon_rest h2, hw, ha.plains, ha.plains]
  cases hx : wrongsP l [] l 0 with
  | some x =>
    have := wrongs_lt l [] 0 x hx
    refine ⟨rfl, .inr ?_⟩
    simp only
    rw [if_neg (by omega)]
  | none =>
    simp only
    by_cases hp : plainsP l abc.data.toList = true ∧ plainsP l digits.data.toList = true
    · simp only [if_pos hp]; exact ⟨trivial, .inl trivial⟩
    · simp only [if_neg hp]
      refine ⟨trivial, .inr ?_⟩
      simp

/-- The record that is laid behind where the other would be of a family that is asked. -/
def markR : Rec := ⟨11, 983040, 983041, 0, [], ⟨#[]⟩, ⟨#[]⟩, 0⟩
theorem okM {l : List Rec} {r : Rec} (h : ∀ x ∈ l, x.ok) (hr : r.ok) : ∀ x ∈ l ++ [r], x.ok := fun x hx => by
  rcases List.mem_append.1 hx with hx | hx
  · exact h x hx
  · rw [List.mem_singleton.1 hx]; exact hr
theorem toM {l : List Rec} {r : Rec} (h : ∀ x ∈ l, x.to.length ≤ 35184372088832) (hr : r.to.length ≤ 35184372088832) : ∀ x ∈ l ++ [r], x.to.length ≤ 35184372088832 := fun x hx => by
  rcases List.mem_append.1 hx with hx | hx
  · exact h x hx
  · rw [List.mem_singleton.1 hx]; exact hr
theorem mark_ok : markR.ok := by unfold markR Rec.ok i64ok; simp
theorem mark_to : markR.to.length ≤ 35184372088832 := by unfold markR; simp
theorem w8 (l : List Rec) (r : Rec) (hl : ∀ r ∈ l, r.ok) (hn : l.length < 9223372036854775808) (hto : ∀ r ∈ l, r.to.length ≤ 35184372088832) (hr : r.ok) (hrt : r.to.length ≤ 35184372088832) (Q : Ex → Slots → LH → Prop) (hQ : ∀ σ H, Slots.get σ 4 = .c (.bool true) → Q .ret σ H) : rnC Try.prog b8 Q [(0, .c (.sl 8 (recs l))), (1, .c (Rec.cv r))] [] := by
  unfold b8
  have hl' : ∀ r ∈ l.take 120, r.ok := fun r hr => hl r (List.mem_of_mem_take hr)
  have hto' : ∀ r ∈ l.take 120, r.to.length ≤ 35184372088832 := fun r hr => hto r (List.mem_of_mem_take hr)
  obtain ⟨hn1, hn2⟩ := take_len l 120
  have c14 : CW Try.prog 14 [.cv (.sl 8 (recs l)), .cv (.int .i64 120)] ⟨[.cv (.sl 8 (recs (l.take 120)))], []⟩ := (cw14 l 120 (by omega) hn hto).pubRes rfl
  simp only [go_sem, ↓reduceIte, Nat.reduceEqDiff, Nat.reduceMul, Nat.reduceAdd, Nat.reduceDiv, Nat.reduceSub, Nat.reduceLT, Nat.reduceLeDiff, Int.reduceLE, Int.reduceLT, Int.reduceToNat, Int.reduceEq]
  refine callK_1 _ (fun _ => c14) (by simp only [go_sem, ↓reduceIte, Nat.reduceEqDiff, Nat.reduceMul, Nat.reduceAdd, Nat.reduceDiv, Nat.reduceSub, Nat.reduceLT, Nat.reduceLeDiff, Int.reduceLE, Int.reduceLT, Int.reduceToNat, Int.reduceEq]) rfl rfl ?_
  simp only [go_sem, ↓reduceIte, Nat.reduceEqDiff, Nat.reduceMul, Nat.reduceAdd, Nat.reduceDiv, Nat.reduceSub, Nat.reduceLT, Nat.reduceLeDiff, Int.reduceLE, Int.reduceLT, Int.reduceToNat, Int.reduceEq]
  repeat (refine ⟨by (first | omega | (intro h1 h2; exact ⟨h1, h2⟩) | (intro h1; omega) | (intro h1; exact h1) | trivial), ?_⟩)
  refine callK_1 _ (fun _ => cw28 r.kind) (by simp only [go_sem, ↓reduceIte, Nat.reduceEqDiff, Nat.reduceMul, Nat.reduceAdd, Nat.reduceDiv, Nat.reduceSub, Nat.reduceLT, Nat.reduceLeDiff, Int.reduceLE, Int.reduceLT, Int.reduceToNat, Int.reduceEq]) rfl rfl ?_
  simp only [go_sem, ↓reduceIte, Nat.reduceEqDiff, Nat.reduceMul, Nat.reduceAdd, Nat.reduceDiv, Nat.reduceSub, Nat.reduceLT, Nat.reduceLeDiff, Int.reduceLE, Int.reduceLT, Int.reduceToNat, Int.reduceEq]
  repeat (refine ⟨by (first | omega | (intro h1 h2; exact ⟨h1, h2⟩) | (intro h1; omega) | (intro h1; exact h1) | trivial), ?_⟩)
  have c29 : CW Try.prog 29 [.cv (.sl 8 (recs (l.take 120)))] ⟨[.own 8 (recs (l.take 120))], []⟩ := cw29 (l.take 120) (by omega) hto'
  refine ⟨fun hf => ⟨?_, ?_⟩, fun hf => ?_⟩
  · refine callK_O 8 (recs (l.take 120)) (fun _ => c29) (by simp only [go_sem, ↓reduceIte, Nat.reduceEqDiff, Nat.reduceMul, Nat.reduceAdd, Nat.reduceDiv, Nat.reduceSub, Nat.reduceLT, Nat.reduceLeDiff, Int.reduceLE, Int.reduceLT, Int.reduceToNat, Int.reduceEq]) rfl rfl ?_
    simp only [go_sem, ↓reduceIte, Nat.reduceEqDiff, Nat.reduceMul, Nat.reduceAdd, Nat.reduceDiv, Nat.reduceSub, Nat.reduceLT, Nat.reduceLeDiff, Int.reduceLE, Int.reduceLT, Int.reduceToNat, Int.reduceEq]
    repeat (refine ⟨by (first | omega | (intro h1 h2; exact ⟨h1, h2⟩) | (intro h1; omega) | (intro h1; exact h1) | trivial), ?_⟩)
    have hokW := okM hl' mark_ok
    have htoW := toM hto' mark_to
    have hfam : 4 ≤ famK markR.kind := by decide
    have hw : List.take (List.take 120 l).length (recs (List.take 120 l)) ++ [CV.agg [CV.int .i64 11, CV.int .i64 983040, CV.int .i64 983041, CV.int .i64 0, CV.sl 1 [], CV.str ⟨#[]⟩, CV.str ⟨#[]⟩, CV.flt 0]] = recs (l.take 120 ++ [markR]) := by
      rw [List.take_of_length_le (by rw [recs_len]; omega)]
      simp [recs, Rec.cv, runes, markR]
    rw [hw]
    have hlen : (l.take 120 ++ [markR]).length = (l.take 120).length + 1 := by simp
    refine callK_2 _ _ (fun _ => cw30 (l.take 120) hl' hto') (by simp only [go_sem, ↓reduceIte, Nat.reduceEqDiff, Nat.reduceMul, Nat.reduceAdd, Nat.reduceDiv, Nat.reduceSub, Nat.reduceLT, Nat.reduceLeDiff, Int.reduceLE, Int.reduceLT, Int.reduceToNat, Int.reduceEq]) rfl rfl ?_
    simp only [go_sem, ↓reduceIte, Nat.reduceEqDiff, Nat.reduceMul, Nat.reduceAdd, Nat.reduceDiv, Nat.reduceSub, Nat.reduceLT, Nat.reduceLeDiff, Int.reduceLE, Int.reduceLT, Int.reduceToNat, Int.reduceEq]
    repeat (refine ⟨by (first | omega | (intro h1 h2; exact ⟨h1, h2⟩) | (intro h1; omega) | (intro h1; exact h1) | trivial), ?_⟩)
    have hcut : List.take ((List.take 120 l).length + 1) (recs (l.take 120 ++ [markR])) = recs (l.take 120 ++ [markR]) := List.take_of_length_le (by rw [recs_len, hlen]; omega)
    refine callK_i ⟨[.cv (.int .i64 (checkP (l.take 120 ++ [markR])).1), .cv (.int .i64 (checkP (l.take 120 ++ [markR])).2)], []⟩ (fun _ => by rw [hcut]; exact cw30 _ hokW htoW) ⟨by simp only [go_sem, ↓reduceIte, Nat.reduceEqDiff, Nat.reduceMul, Nat.reduceAdd, Nat.reduceDiv, Nat.reduceSub, Nat.reduceLT, Nat.reduceLeDiff, Int.reduceLE, Int.reduceLT, Int.reduceToNat, Int.reduceEq], .inr ⟨by simp [OC.scalar, CV.scalar], by simp⟩, ⟨by simp only [go_sem, ↓reduceIte, Nat.reduceEqDiff, Nat.reduceMul, Nat.reduceAdd, Nat.reduceDiv, Nat.reduceSub, Nat.reduceLT, Nat.reduceLeDiff, Int.reduceLE, Int.reduceLT, Int.reduceToNat, Int.reduceEq], by simp, by simp, by simp⟩, ?_⟩
    simp only [go_sem, ↓reduceIte, Nat.reduceEqDiff, Nat.reduceMul, Nat.reduceAdd, Nat.reduceDiv, Nat.reduceSub, Nat.reduceLT, Nat.reduceLeDiff, Int.reduceLE, Int.reduceLT, Int.reduceToNat, Int.reduceEq]
    refine ⟨fun h => ?_, fun h => ?_⟩
    · refine callK_1 _ (fun _ => cw22) (by simp only [go_sem, ↓reduceIte, Nat.reduceEqDiff, Nat.reduceMul, Nat.reduceAdd, Nat.reduceDiv, Nat.reduceSub, Nat.reduceLT, Nat.reduceLeDiff, Int.reduceLE, Int.reduceLT, Int.reduceToNat, Int.reduceEq]) rfl rfl ?_
      simp only [go_sem, ↓reduceIte, Nat.reduceEqDiff, Nat.reduceMul, Nat.reduceAdd, Nat.reduceDiv, Nat.reduceSub, Nat.reduceLT, Nat.reduceLeDiff, Int.reduceLE, Int.reduceLT, Int.reduceToNat, Int.reduceEq]
      repeat (refine ⟨by (first | omega | (intro h1 h2; exact ⟨h1, h2⟩) | (intro h1; omega) | (intro h1; exact h1) | trivial), ?_⟩)
      refine hQ _ _ ?_
      simp only [go_sem, ↓reduceIte, Nat.reduceEqDiff, Nat.reduceMul, Nat.reduceAdd, Nat.reduceDiv, Nat.reduceSub, Nat.reduceLT, Nat.reduceLeDiff, Int.reduceLE, Int.reduceLT, Int.reduceToNat, Int.reduceEq]
      congr 2
      rw [Bool.eq_iff_iff]
      have hcm := @check_more (l.take 120) markR
      simp
      by_cases h0 : (checkP (l.take 120)).2 = 0
      · exact .inl h0
      · exact .inr (hcm h0)
    · refine callK_2 _ _ (fun _ => cw26 (l.take 120) hl' hto') (by simp only [go_sem, ↓reduceIte, Nat.reduceEqDiff, Nat.reduceMul, Nat.reduceAdd, Nat.reduceDiv, Nat.reduceSub, Nat.reduceLT, Nat.reduceLeDiff, Int.reduceLE, Int.reduceLT, Int.reduceToNat, Int.reduceEq]) rfl rfl ?_
      simp only [go_sem, ↓reduceIte, Nat.reduceEqDiff, Nat.reduceMul, Nat.reduceAdd, Nat.reduceDiv, Nat.reduceSub, Nat.reduceLT, Nat.reduceLeDiff, Int.reduceLE, Int.reduceLT, Int.reduceToNat, Int.reduceEq]
      repeat (refine ⟨by (first | omega | (intro h1 h2; exact ⟨h1, h2⟩) | (intro h1; omega) | (intro h1; exact h1) | trivial), ?_⟩)
      refine callK_i ⟨[.cv (.int .i64 (canonP (l.take 120 ++ [markR])).1), .cv (.int .i64 (canonP (l.take 120 ++ [markR])).2)], []⟩ (fun _ => by rw [hcut]; exact cw26 _ hokW htoW) ⟨by simp only [go_sem, ↓reduceIte, Nat.reduceEqDiff, Nat.reduceMul, Nat.reduceAdd, Nat.reduceDiv, Nat.reduceSub, Nat.reduceLT, Nat.reduceLeDiff, Int.reduceLE, Int.reduceLT, Int.reduceToNat, Int.reduceEq], .inr ⟨by simp [OC.scalar, CV.scalar], by simp⟩, ⟨by simp only [go_sem, ↓reduceIte, Nat.reduceEqDiff, Nat.reduceMul, Nat.reduceAdd, Nat.reduceDiv, Nat.reduceSub, Nat.reduceLT, Nat.reduceLeDiff, Int.reduceLE, Int.reduceLT, Int.reduceToNat, Int.reduceEq], by simp, by simp, by simp⟩, ?_⟩
      simp only [go_sem, ↓reduceIte, Nat.reduceEqDiff, Nat.reduceMul, Nat.reduceAdd, Nat.reduceDiv, Nat.reduceSub, Nat.reduceLT, Nat.reduceLeDiff, Int.reduceLE, Int.reduceLT, Int.reduceToNat, Int.reduceEq]
      have hm := canon_more hfam h.1 h.2
      refine ⟨fun h2 => ?_, fun h2 => ?_⟩
      · refine callK_1 _ (fun _ => cw22) (by simp only [go_sem, ↓reduceIte, Nat.reduceEqDiff, Nat.reduceMul, Nat.reduceAdd, Nat.reduceDiv, Nat.reduceSub, Nat.reduceLT, Nat.reduceLeDiff, Int.reduceLE, Int.reduceLT, Int.reduceToNat, Int.reduceEq]) rfl rfl ?_
        simp only [go_sem, ↓reduceIte, Nat.reduceEqDiff, Nat.reduceMul, Nat.reduceAdd, Nat.reduceDiv, Nat.reduceSub, Nat.reduceLT, Nat.reduceLeDiff, Int.reduceLE, Int.reduceLT, Int.reduceToNat, Int.reduceEq]
        repeat (refine ⟨by (first | omega | (intro h1 h2; exact ⟨h1, h2⟩) | (intro h1; omega) | (intro h1; exact h1) | trivial), ?_⟩)
        refine hQ _ _ ?_
        simp only [go_sem, ↓reduceIte, Nat.reduceEqDiff, Nat.reduceMul, Nat.reduceAdd, Nat.reduceDiv, Nat.reduceSub, Nat.reduceLT, Nat.reduceLeDiff, Int.reduceLE, Int.reduceLT, Int.reduceToNat, Int.reduceEq]
        rw [if_pos h2] at hm
        have hw2 : IntKind.i64.wrap ((canonP (l.take 120)).1 + 1) = (canonP (l.take 120)).1 + 1 := by rw [wrap_i64]; omega
        rw [hw2, ← hm.1, decide_eq_true rfl, Bool.true_and]
        congr 2
        rw [Bool.eq_iff_iff]
        simpa using hm.2
      · refine callK_1 _ (fun _ => cw22) (by simp only [go_sem, ↓reduceIte, Nat.reduceEqDiff, Nat.reduceMul, Nat.reduceAdd, Nat.reduceDiv, Nat.reduceSub, Nat.reduceLT, Nat.reduceLeDiff, Int.reduceLE, Int.reduceLT, Int.reduceToNat, Int.reduceEq]) rfl rfl ?_
        simp only [go_sem, ↓reduceIte, Nat.reduceEqDiff, Nat.reduceMul, Nat.reduceAdd, Nat.reduceDiv, Nat.reduceSub, Nat.reduceLT, Nat.reduceLeDiff, Int.reduceLE, Int.reduceLT, Int.reduceToNat, Int.reduceEq]
        repeat (refine ⟨by (first | omega | (intro h1 h2; exact ⟨h1, h2⟩) | (intro h1; omega) | (intro h1; exact h1) | trivial), ?_⟩)
        refine hQ _ _ ?_
        simp only [go_sem, ↓reduceIte, Nat.reduceEqDiff, Nat.reduceMul, Nat.reduceAdd, Nat.reduceDiv, Nat.reduceSub, Nat.reduceLT, Nat.reduceLeDiff, Int.reduceLE, Int.reduceLT, Int.reduceToNat, Int.reduceEq]
        rw [if_neg h2] at hm
        rw [← hm.1, decide_eq_true rfl, Bool.true_and]
        congr 2
        rw [Bool.eq_iff_iff]
        simpa using hm.2
  · refine callK_O 8 (recs (l.take 120)) (fun _ => c29) (by simp only [go_sem, ↓reduceIte, Nat.reduceEqDiff, Nat.reduceMul, Nat.reduceAdd, Nat.reduceDiv, Nat.reduceSub, Nat.reduceLT, Nat.reduceLeDiff, Int.reduceLE, Int.reduceLT, Int.reduceToNat, Int.reduceEq]) rfl rfl ?_
    simp only [go_sem, ↓reduceIte, Nat.reduceEqDiff, Nat.reduceMul, Nat.reduceAdd, Nat.reduceDiv, Nat.reduceSub, Nat.reduceLT, Nat.reduceLeDiff, Int.reduceLE, Int.reduceLT, Int.reduceToNat, Int.reduceEq]
    repeat (refine ⟨by (first | omega | (intro h1 h2; exact ⟨h1, h2⟩) | (intro h1; omega) | (intro h1; exact h1) | trivial), ?_⟩)
    have hokW := okM hl' mark_ok
    have htoW := toM hto' mark_to
    have hfam : 4 ≤ famK markR.kind := by decide
    have hw : List.take (List.take 120 l).length (recs (List.take 120 l)) ++ [CV.agg [CV.int .i64 11, CV.int .i64 983040, CV.int .i64 983041, CV.int .i64 0, CV.sl 1 [], CV.str ⟨#[]⟩, CV.str ⟨#[]⟩, CV.flt 0]] = recs (l.take 120 ++ [markR]) := by
      rw [List.take_of_length_le (by rw [recs_len]; omega)]
      simp [recs, Rec.cv, runes, markR]
    rw [hw]
    have hlen : (l.take 120 ++ [markR]).length = (l.take 120).length + 1 := by simp
    refine callK_2 _ _ (fun _ => cw30 (l.take 120) hl' hto') (by simp only [go_sem, ↓reduceIte, Nat.reduceEqDiff, Nat.reduceMul, Nat.reduceAdd, Nat.reduceDiv, Nat.reduceSub, Nat.reduceLT, Nat.reduceLeDiff, Int.reduceLE, Int.reduceLT, Int.reduceToNat, Int.reduceEq]) rfl rfl ?_
    simp only [go_sem, ↓reduceIte, Nat.reduceEqDiff, Nat.reduceMul, Nat.reduceAdd, Nat.reduceDiv, Nat.reduceSub, Nat.reduceLT, Nat.reduceLeDiff, Int.reduceLE, Int.reduceLT, Int.reduceToNat, Int.reduceEq]
    repeat (refine ⟨by (first | omega | (intro h1 h2; exact ⟨h1, h2⟩) | (intro h1; omega) | (intro h1; exact h1) | trivial), ?_⟩)
    have hcut : List.take ((List.take 120 l).length + 1) (recs (l.take 120 ++ [markR])) = recs (l.take 120 ++ [markR]) := List.take_of_length_le (by rw [recs_len, hlen]; omega)
    refine callK_i ⟨[.cv (.int .i64 (checkP (l.take 120 ++ [markR])).1), .cv (.int .i64 (checkP (l.take 120 ++ [markR])).2)], []⟩ (fun _ => by rw [hcut]; exact cw30 _ hokW htoW) ⟨by simp only [go_sem, ↓reduceIte, Nat.reduceEqDiff, Nat.reduceMul, Nat.reduceAdd, Nat.reduceDiv, Nat.reduceSub, Nat.reduceLT, Nat.reduceLeDiff, Int.reduceLE, Int.reduceLT, Int.reduceToNat, Int.reduceEq], .inr ⟨by simp [OC.scalar, CV.scalar], by simp⟩, ⟨by simp only [go_sem, ↓reduceIte, Nat.reduceEqDiff, Nat.reduceMul, Nat.reduceAdd, Nat.reduceDiv, Nat.reduceSub, Nat.reduceLT, Nat.reduceLeDiff, Int.reduceLE, Int.reduceLT, Int.reduceToNat, Int.reduceEq], by simp, by simp, by simp⟩, ?_⟩
    simp only [go_sem, ↓reduceIte, Nat.reduceEqDiff, Nat.reduceMul, Nat.reduceAdd, Nat.reduceDiv, Nat.reduceSub, Nat.reduceLT, Nat.reduceLeDiff, Int.reduceLE, Int.reduceLT, Int.reduceToNat, Int.reduceEq]
    refine ⟨fun h => ?_, fun h => ?_⟩
    · refine callK_1 _ (fun _ => cw22) (by simp only [go_sem, ↓reduceIte, Nat.reduceEqDiff, Nat.reduceMul, Nat.reduceAdd, Nat.reduceDiv, Nat.reduceSub, Nat.reduceLT, Nat.reduceLeDiff, Int.reduceLE, Int.reduceLT, Int.reduceToNat, Int.reduceEq]) rfl rfl ?_
      simp only [go_sem, ↓reduceIte, Nat.reduceEqDiff, Nat.reduceMul, Nat.reduceAdd, Nat.reduceDiv, Nat.reduceSub, Nat.reduceLT, Nat.reduceLeDiff, Int.reduceLE, Int.reduceLT, Int.reduceToNat, Int.reduceEq]
      repeat (refine ⟨by (first | omega | (intro h1 h2; exact ⟨h1, h2⟩) | (intro h1; omega) | (intro h1; exact h1) | trivial), ?_⟩)
      refine hQ _ _ ?_
      simp only [go_sem, ↓reduceIte, Nat.reduceEqDiff, Nat.reduceMul, Nat.reduceAdd, Nat.reduceDiv, Nat.reduceSub, Nat.reduceLT, Nat.reduceLeDiff, Int.reduceLE, Int.reduceLT, Int.reduceToNat, Int.reduceEq]
      congr 2
      rw [Bool.eq_iff_iff]
      have hcm := @check_more (l.take 120) markR
      simp
      by_cases h0 : (checkP (l.take 120)).2 = 0
      · exact .inl h0
      · exact .inr (hcm h0)
    · refine callK_2 _ _ (fun _ => cw26 (l.take 120) hl' hto') (by simp only [go_sem, ↓reduceIte, Nat.reduceEqDiff, Nat.reduceMul, Nat.reduceAdd, Nat.reduceDiv, Nat.reduceSub, Nat.reduceLT, Nat.reduceLeDiff, Int.reduceLE, Int.reduceLT, Int.reduceToNat, Int.reduceEq]) rfl rfl ?_
      simp only [go_sem, ↓reduceIte, Nat.reduceEqDiff, Nat.reduceMul, Nat.reduceAdd, Nat.reduceDiv, Nat.reduceSub, Nat.reduceLT, Nat.reduceLeDiff, Int.reduceLE, Int.reduceLT, Int.reduceToNat, Int.reduceEq]
      repeat (refine ⟨by (first | omega | (intro h1 h2; exact ⟨h1, h2⟩) | (intro h1; omega) | (intro h1; exact h1) | trivial), ?_⟩)
      refine callK_i ⟨[.cv (.int .i64 (canonP (l.take 120 ++ [markR])).1), .cv (.int .i64 (canonP (l.take 120 ++ [markR])).2)], []⟩ (fun _ => by rw [hcut]; exact cw26 _ hokW htoW) ⟨by simp only [go_sem, ↓reduceIte, Nat.reduceEqDiff, Nat.reduceMul, Nat.reduceAdd, Nat.reduceDiv, Nat.reduceSub, Nat.reduceLT, Nat.reduceLeDiff, Int.reduceLE, Int.reduceLT, Int.reduceToNat, Int.reduceEq], .inr ⟨by simp [OC.scalar, CV.scalar], by simp⟩, ⟨by simp only [go_sem, ↓reduceIte, Nat.reduceEqDiff, Nat.reduceMul, Nat.reduceAdd, Nat.reduceDiv, Nat.reduceSub, Nat.reduceLT, Nat.reduceLeDiff, Int.reduceLE, Int.reduceLT, Int.reduceToNat, Int.reduceEq], by simp, by simp, by simp⟩, ?_⟩
      simp only [go_sem, ↓reduceIte, Nat.reduceEqDiff, Nat.reduceMul, Nat.reduceAdd, Nat.reduceDiv, Nat.reduceSub, Nat.reduceLT, Nat.reduceLeDiff, Int.reduceLE, Int.reduceLT, Int.reduceToNat, Int.reduceEq]
      have hm := canon_more hfam h.1 h.2
      refine ⟨fun h2 => ?_, fun h2 => ?_⟩
      · refine callK_1 _ (fun _ => cw22) (by simp only [go_sem, ↓reduceIte, Nat.reduceEqDiff, Nat.reduceMul, Nat.reduceAdd, Nat.reduceDiv, Nat.reduceSub, Nat.reduceLT, Nat.reduceLeDiff, Int.reduceLE, Int.reduceLT, Int.reduceToNat, Int.reduceEq]) rfl rfl ?_
        simp only [go_sem, ↓reduceIte, Nat.reduceEqDiff, Nat.reduceMul, Nat.reduceAdd, Nat.reduceDiv, Nat.reduceSub, Nat.reduceLT, Nat.reduceLeDiff, Int.reduceLE, Int.reduceLT, Int.reduceToNat, Int.reduceEq]
        repeat (refine ⟨by (first | omega | (intro h1 h2; exact ⟨h1, h2⟩) | (intro h1; omega) | (intro h1; exact h1) | trivial), ?_⟩)
        refine hQ _ _ ?_
        simp only [go_sem, ↓reduceIte, Nat.reduceEqDiff, Nat.reduceMul, Nat.reduceAdd, Nat.reduceDiv, Nat.reduceSub, Nat.reduceLT, Nat.reduceLeDiff, Int.reduceLE, Int.reduceLT, Int.reduceToNat, Int.reduceEq]
        rw [if_pos h2] at hm
        have hw2 : IntKind.i64.wrap ((canonP (l.take 120)).1 + 1) = (canonP (l.take 120)).1 + 1 := by rw [wrap_i64]; omega
        rw [hw2, ← hm.1, decide_eq_true rfl, Bool.true_and]
        congr 2
        rw [Bool.eq_iff_iff]
        simpa using hm.2
      · refine callK_1 _ (fun _ => cw22) (by simp only [go_sem, ↓reduceIte, Nat.reduceEqDiff, Nat.reduceMul, Nat.reduceAdd, Nat.reduceDiv, Nat.reduceSub, Nat.reduceLT, Nat.reduceLeDiff, Int.reduceLE, Int.reduceLT, Int.reduceToNat, Int.reduceEq]) rfl rfl ?_
        simp only [go_sem, ↓reduceIte, Nat.reduceEqDiff, Nat.reduceMul, Nat.reduceAdd, Nat.reduceDiv, Nat.reduceSub, Nat.reduceLT, Nat.reduceLeDiff, Int.reduceLE, Int.reduceLT, Int.reduceToNat, Int.reduceEq]
        repeat (refine ⟨by (first | omega | (intro h1 h2; exact ⟨h1, h2⟩) | (intro h1; omega) | (intro h1; exact h1) | trivial), ?_⟩)
        refine hQ _ _ ?_
        simp only [go_sem, ↓reduceIte, Nat.reduceEqDiff, Nat.reduceMul, Nat.reduceAdd, Nat.reduceDiv, Nat.reduceSub, Nat.reduceLT, Nat.reduceLeDiff, Int.reduceLE, Int.reduceLT, Int.reduceToNat, Int.reduceEq]
        rw [if_neg h2] at hm
        rw [← hm.1, decide_eq_true rfl, Bool.true_and]
        congr 2
        rw [Bool.eq_iff_iff]
        simpa using hm.2
  · refine ⟨?_, ?_⟩
    · refine callK_O 8 (recs (l.take 120)) (fun _ => c29) (by simp only [go_sem, ↓reduceIte, Nat.reduceEqDiff, Nat.reduceMul, Nat.reduceAdd, Nat.reduceDiv, Nat.reduceSub, Nat.reduceLT, Nat.reduceLeDiff, Int.reduceLE, Int.reduceLT, Int.reduceToNat, Int.reduceEq]) rfl rfl ?_
      simp only [go_sem, ↓reduceIte, Nat.reduceEqDiff, Nat.reduceMul, Nat.reduceAdd, Nat.reduceDiv, Nat.reduceSub, Nat.reduceLT, Nat.reduceLeDiff, Int.reduceLE, Int.reduceLT, Int.reduceToNat, Int.reduceEq]
      repeat (refine ⟨by (first | omega | (intro h1 h2; exact ⟨h1, h2⟩) | (intro h1; omega) | (intro h1; exact h1) | trivial), ?_⟩)
      have hokW := okM hl' hr
      have htoW := toM hto' hrt
      have hfam : 4 ≤ famK r.kind := by omega
      have hw : List.take (List.take 120 l).length (recs (List.take 120 l)) ++ [CV.agg [CV.int .i64 r.kind, CV.int .i64 r.lo, CV.int .i64 r.hi, CV.int .i64 r.n, CV.sl 1 (runes r.to), CV.str r.name, CV.str r.other, CV.flt r.weight]] = recs (l.take 120 ++ [r]) := by
        rw [List.take_of_length_le (by rw [recs_len]; omega)]
        simp [recs, Rec.cv, runes, markR]
      rw [hw]
      have hlen : (l.take 120 ++ [r]).length = (l.take 120).length + 1 := by simp
      refine callK_2 _ _ (fun _ => cw30 (l.take 120) hl' hto') (by simp only [go_sem, ↓reduceIte, Nat.reduceEqDiff, Nat.reduceMul, Nat.reduceAdd, Nat.reduceDiv, Nat.reduceSub, Nat.reduceLT, Nat.reduceLeDiff, Int.reduceLE, Int.reduceLT, Int.reduceToNat, Int.reduceEq]) rfl rfl ?_
      simp only [go_sem, ↓reduceIte, Nat.reduceEqDiff, Nat.reduceMul, Nat.reduceAdd, Nat.reduceDiv, Nat.reduceSub, Nat.reduceLT, Nat.reduceLeDiff, Int.reduceLE, Int.reduceLT, Int.reduceToNat, Int.reduceEq]
      repeat (refine ⟨by (first | omega | (intro h1 h2; exact ⟨h1, h2⟩) | (intro h1; omega) | (intro h1; exact h1) | trivial), ?_⟩)
      have hcut : List.take ((List.take 120 l).length + 1) (recs (l.take 120 ++ [r])) = recs (l.take 120 ++ [r]) := List.take_of_length_le (by rw [recs_len, hlen]; omega)
      refine callK_i ⟨[.cv (.int .i64 (checkP (l.take 120 ++ [r])).1), .cv (.int .i64 (checkP (l.take 120 ++ [r])).2)], []⟩ (fun _ => by rw [hcut]; exact cw30 _ hokW htoW) ⟨by simp only [go_sem, ↓reduceIte, Nat.reduceEqDiff, Nat.reduceMul, Nat.reduceAdd, Nat.reduceDiv, Nat.reduceSub, Nat.reduceLT, Nat.reduceLeDiff, Int.reduceLE, Int.reduceLT, Int.reduceToNat, Int.reduceEq], .inr ⟨by simp [OC.scalar, CV.scalar], by simp⟩, ⟨by simp only [go_sem, ↓reduceIte, Nat.reduceEqDiff, Nat.reduceMul, Nat.reduceAdd, Nat.reduceDiv, Nat.reduceSub, Nat.reduceLT, Nat.reduceLeDiff, Int.reduceLE, Int.reduceLT, Int.reduceToNat, Int.reduceEq], by simp, by simp, by simp⟩, ?_⟩
      simp only [go_sem, ↓reduceIte, Nat.reduceEqDiff, Nat.reduceMul, Nat.reduceAdd, Nat.reduceDiv, Nat.reduceSub, Nat.reduceLT, Nat.reduceLeDiff, Int.reduceLE, Int.reduceLT, Int.reduceToNat, Int.reduceEq]
      refine ⟨fun h => ?_, fun h => ?_⟩
      · refine callK_1 _ (fun _ => cw22) (by simp only [go_sem, ↓reduceIte, Nat.reduceEqDiff, Nat.reduceMul, Nat.reduceAdd, Nat.reduceDiv, Nat.reduceSub, Nat.reduceLT, Nat.reduceLeDiff, Int.reduceLE, Int.reduceLT, Int.reduceToNat, Int.reduceEq]) rfl rfl ?_
        simp only [go_sem, ↓reduceIte, Nat.reduceEqDiff, Nat.reduceMul, Nat.reduceAdd, Nat.reduceDiv, Nat.reduceSub, Nat.reduceLT, Nat.reduceLeDiff, Int.reduceLE, Int.reduceLT, Int.reduceToNat, Int.reduceEq]
        repeat (refine ⟨by (first | omega | (intro h1 h2; exact ⟨h1, h2⟩) | (intro h1; omega) | (intro h1; exact h1) | trivial), ?_⟩)
        refine hQ _ _ ?_
        simp only [go_sem, ↓reduceIte, Nat.reduceEqDiff, Nat.reduceMul, Nat.reduceAdd, Nat.reduceDiv, Nat.reduceSub, Nat.reduceLT, Nat.reduceLeDiff, Int.reduceLE, Int.reduceLT, Int.reduceToNat, Int.reduceEq]
        congr 2
        rw [Bool.eq_iff_iff]
        have hcm := @check_more (l.take 120) r
        simp
        by_cases h0 : (checkP (l.take 120)).2 = 0
        · exact .inl h0
        · exact .inr (hcm h0)
      · refine callK_2 _ _ (fun _ => cw26 (l.take 120) hl' hto') (by simp only [go_sem, ↓reduceIte, Nat.reduceEqDiff, Nat.reduceMul, Nat.reduceAdd, Nat.reduceDiv, Nat.reduceSub, Nat.reduceLT, Nat.reduceLeDiff, Int.reduceLE, Int.reduceLT, Int.reduceToNat, Int.reduceEq]) rfl rfl ?_
        simp only [go_sem, ↓reduceIte, Nat.reduceEqDiff, Nat.reduceMul, Nat.reduceAdd, Nat.reduceDiv, Nat.reduceSub, Nat.reduceLT, Nat.reduceLeDiff, Int.reduceLE, Int.reduceLT, Int.reduceToNat, Int.reduceEq]
        repeat (refine ⟨by (first | omega | (intro h1 h2; exact ⟨h1, h2⟩) | (intro h1; omega) | (intro h1; exact h1) | trivial), ?_⟩)
        refine callK_i ⟨[.cv (.int .i64 (canonP (l.take 120 ++ [r])).1), .cv (.int .i64 (canonP (l.take 120 ++ [r])).2)], []⟩ (fun _ => by rw [hcut]; exact cw26 _ hokW htoW) ⟨by simp only [go_sem, ↓reduceIte, Nat.reduceEqDiff, Nat.reduceMul, Nat.reduceAdd, Nat.reduceDiv, Nat.reduceSub, Nat.reduceLT, Nat.reduceLeDiff, Int.reduceLE, Int.reduceLT, Int.reduceToNat, Int.reduceEq], .inr ⟨by simp [OC.scalar, CV.scalar], by simp⟩, ⟨by simp only [go_sem, ↓reduceIte, Nat.reduceEqDiff, Nat.reduceMul, Nat.reduceAdd, Nat.reduceDiv, Nat.reduceSub, Nat.reduceLT, Nat.reduceLeDiff, Int.reduceLE, Int.reduceLT, Int.reduceToNat, Int.reduceEq], by simp, by simp, by simp⟩, ?_⟩
        simp only [go_sem, ↓reduceIte, Nat.reduceEqDiff, Nat.reduceMul, Nat.reduceAdd, Nat.reduceDiv, Nat.reduceSub, Nat.reduceLT, Nat.reduceLeDiff, Int.reduceLE, Int.reduceLT, Int.reduceToNat, Int.reduceEq]
        have hm := canon_more hfam h.1 h.2
        refine ⟨fun h2 => ?_, fun h2 => ?_⟩
        · refine callK_1 _ (fun _ => cw22) (by simp only [go_sem, ↓reduceIte, Nat.reduceEqDiff, Nat.reduceMul, Nat.reduceAdd, Nat.reduceDiv, Nat.reduceSub, Nat.reduceLT, Nat.reduceLeDiff, Int.reduceLE, Int.reduceLT, Int.reduceToNat, Int.reduceEq]) rfl rfl ?_
          simp only [go_sem, ↓reduceIte, Nat.reduceEqDiff, Nat.reduceMul, Nat.reduceAdd, Nat.reduceDiv, Nat.reduceSub, Nat.reduceLT, Nat.reduceLeDiff, Int.reduceLE, Int.reduceLT, Int.reduceToNat, Int.reduceEq]
          repeat (refine ⟨by (first | omega | (intro h1 h2; exact ⟨h1, h2⟩) | (intro h1; omega) | (intro h1; exact h1) | trivial), ?_⟩)
          refine hQ _ _ ?_
          simp only [go_sem, ↓reduceIte, Nat.reduceEqDiff, Nat.reduceMul, Nat.reduceAdd, Nat.reduceDiv, Nat.reduceSub, Nat.reduceLT, Nat.reduceLeDiff, Int.reduceLE, Int.reduceLT, Int.reduceToNat, Int.reduceEq]
          rw [if_pos h2] at hm
          have hw2 : IntKind.i64.wrap ((canonP (l.take 120)).1 + 1) = (canonP (l.take 120)).1 + 1 := by rw [wrap_i64]; omega
          rw [hw2, ← hm.1, decide_eq_true rfl, Bool.true_and]
          congr 2
          rw [Bool.eq_iff_iff]
          simpa using hm.2
        · refine callK_1 _ (fun _ => cw22) (by simp only [go_sem, ↓reduceIte, Nat.reduceEqDiff, Nat.reduceMul, Nat.reduceAdd, Nat.reduceDiv, Nat.reduceSub, Nat.reduceLT, Nat.reduceLeDiff, Int.reduceLE, Int.reduceLT, Int.reduceToNat, Int.reduceEq]) rfl rfl ?_
          simp only [go_sem, ↓reduceIte, Nat.reduceEqDiff, Nat.reduceMul, Nat.reduceAdd, Nat.reduceDiv, Nat.reduceSub, Nat.reduceLT, Nat.reduceLeDiff, Int.reduceLE, Int.reduceLT, Int.reduceToNat, Int.reduceEq]
          repeat (refine ⟨by (first | omega | (intro h1 h2; exact ⟨h1, h2⟩) | (intro h1; omega) | (intro h1; exact h1) | trivial), ?_⟩)
          refine hQ _ _ ?_
          simp only [go_sem, ↓reduceIte, Nat.reduceEqDiff, Nat.reduceMul, Nat.reduceAdd, Nat.reduceDiv, Nat.reduceSub, Nat.reduceLT, Nat.reduceLeDiff, Int.reduceLE, Int.reduceLT, Int.reduceToNat, Int.reduceEq]
          rw [if_neg h2] at hm
          rw [← hm.1, decide_eq_true rfl, Bool.true_and]
          congr 2
          rw [Bool.eq_iff_iff]
          simpa using hm.2
    · refine callK_O 8 (recs (l.take 120)) (fun _ => c29) (by simp only [go_sem, ↓reduceIte, Nat.reduceEqDiff, Nat.reduceMul, Nat.reduceAdd, Nat.reduceDiv, Nat.reduceSub, Nat.reduceLT, Nat.reduceLeDiff, Int.reduceLE, Int.reduceLT, Int.reduceToNat, Int.reduceEq]) rfl rfl ?_
      simp only [go_sem, ↓reduceIte, Nat.reduceEqDiff, Nat.reduceMul, Nat.reduceAdd, Nat.reduceDiv, Nat.reduceSub, Nat.reduceLT, Nat.reduceLeDiff, Int.reduceLE, Int.reduceLT, Int.reduceToNat, Int.reduceEq]
      repeat (refine ⟨by (first | omega | (intro h1 h2; exact ⟨h1, h2⟩) | (intro h1; omega) | (intro h1; exact h1) | trivial), ?_⟩)
      have hokW := okM hl' hr
      have htoW := toM hto' hrt
      have hfam : 4 ≤ famK r.kind := by omega
      have hw : List.take (List.take 120 l).length (recs (List.take 120 l)) ++ [CV.agg [CV.int .i64 r.kind, CV.int .i64 r.lo, CV.int .i64 r.hi, CV.int .i64 r.n, CV.sl 1 (runes r.to), CV.str r.name, CV.str r.other, CV.flt r.weight]] = recs (l.take 120 ++ [r]) := by
        rw [List.take_of_length_le (by rw [recs_len]; omega)]
        simp [recs, Rec.cv, runes, markR]
      rw [hw]
      have hlen : (l.take 120 ++ [r]).length = (l.take 120).length + 1 := by simp
      refine callK_2 _ _ (fun _ => cw30 (l.take 120) hl' hto') (by simp only [go_sem, ↓reduceIte, Nat.reduceEqDiff, Nat.reduceMul, Nat.reduceAdd, Nat.reduceDiv, Nat.reduceSub, Nat.reduceLT, Nat.reduceLeDiff, Int.reduceLE, Int.reduceLT, Int.reduceToNat, Int.reduceEq]) rfl rfl ?_
      simp only [go_sem, ↓reduceIte, Nat.reduceEqDiff, Nat.reduceMul, Nat.reduceAdd, Nat.reduceDiv, Nat.reduceSub, Nat.reduceLT, Nat.reduceLeDiff, Int.reduceLE, Int.reduceLT, Int.reduceToNat, Int.reduceEq]
      repeat (refine ⟨by (first | omega | (intro h1 h2; exact ⟨h1, h2⟩) | (intro h1; omega) | (intro h1; exact h1) | trivial), ?_⟩)
      have hcut : List.take ((List.take 120 l).length + 1) (recs (l.take 120 ++ [r])) = recs (l.take 120 ++ [r]) := List.take_of_length_le (by rw [recs_len, hlen]; omega)
      refine callK_i ⟨[.cv (.int .i64 (checkP (l.take 120 ++ [r])).1), .cv (.int .i64 (checkP (l.take 120 ++ [r])).2)], []⟩ (fun _ => by rw [hcut]; exact cw30 _ hokW htoW) ⟨by simp only [go_sem, ↓reduceIte, Nat.reduceEqDiff, Nat.reduceMul, Nat.reduceAdd, Nat.reduceDiv, Nat.reduceSub, Nat.reduceLT, Nat.reduceLeDiff, Int.reduceLE, Int.reduceLT, Int.reduceToNat, Int.reduceEq], .inr ⟨by simp [OC.scalar, CV.scalar], by simp⟩, ⟨by simp only [go_sem, ↓reduceIte, Nat.reduceEqDiff, Nat.reduceMul, Nat.reduceAdd, Nat.reduceDiv, Nat.reduceSub, Nat.reduceLT, Nat.reduceLeDiff, Int.reduceLE, Int.reduceLT, Int.reduceToNat, Int.reduceEq], by simp, by simp, by simp⟩, ?_⟩
      simp only [go_sem, ↓reduceIte, Nat.reduceEqDiff, Nat.reduceMul, Nat.reduceAdd, Nat.reduceDiv, Nat.reduceSub, Nat.reduceLT, Nat.reduceLeDiff, Int.reduceLE, Int.reduceLT, Int.reduceToNat, Int.reduceEq]
      refine ⟨fun h => ?_, fun h => ?_⟩
      · refine callK_1 _ (fun _ => cw22) (by simp only [go_sem, ↓reduceIte, Nat.reduceEqDiff, Nat.reduceMul, Nat.reduceAdd, Nat.reduceDiv, Nat.reduceSub, Nat.reduceLT, Nat.reduceLeDiff, Int.reduceLE, Int.reduceLT, Int.reduceToNat, Int.reduceEq]) rfl rfl ?_
        simp only [go_sem, ↓reduceIte, Nat.reduceEqDiff, Nat.reduceMul, Nat.reduceAdd, Nat.reduceDiv, Nat.reduceSub, Nat.reduceLT, Nat.reduceLeDiff, Int.reduceLE, Int.reduceLT, Int.reduceToNat, Int.reduceEq]
        repeat (refine ⟨by (first | omega | (intro h1 h2; exact ⟨h1, h2⟩) | (intro h1; omega) | (intro h1; exact h1) | trivial), ?_⟩)
        refine hQ _ _ ?_
        simp only [go_sem, ↓reduceIte, Nat.reduceEqDiff, Nat.reduceMul, Nat.reduceAdd, Nat.reduceDiv, Nat.reduceSub, Nat.reduceLT, Nat.reduceLeDiff, Int.reduceLE, Int.reduceLT, Int.reduceToNat, Int.reduceEq]
        congr 2
        rw [Bool.eq_iff_iff]
        have hcm := @check_more (l.take 120) r
        simp
        by_cases h0 : (checkP (l.take 120)).2 = 0
        · exact .inl h0
        · exact .inr (hcm h0)
      · refine callK_2 _ _ (fun _ => cw26 (l.take 120) hl' hto') (by simp only [go_sem, ↓reduceIte, Nat.reduceEqDiff, Nat.reduceMul, Nat.reduceAdd, Nat.reduceDiv, Nat.reduceSub, Nat.reduceLT, Nat.reduceLeDiff, Int.reduceLE, Int.reduceLT, Int.reduceToNat, Int.reduceEq]) rfl rfl ?_
        simp only [go_sem, ↓reduceIte, Nat.reduceEqDiff, Nat.reduceMul, Nat.reduceAdd, Nat.reduceDiv, Nat.reduceSub, Nat.reduceLT, Nat.reduceLeDiff, Int.reduceLE, Int.reduceLT, Int.reduceToNat, Int.reduceEq]
        repeat (refine ⟨by (first | omega | (intro h1 h2; exact ⟨h1, h2⟩) | (intro h1; omega) | (intro h1; exact h1) | trivial), ?_⟩)
        refine callK_i ⟨[.cv (.int .i64 (canonP (l.take 120 ++ [r])).1), .cv (.int .i64 (canonP (l.take 120 ++ [r])).2)], []⟩ (fun _ => by rw [hcut]; exact cw26 _ hokW htoW) ⟨by simp only [go_sem, ↓reduceIte, Nat.reduceEqDiff, Nat.reduceMul, Nat.reduceAdd, Nat.reduceDiv, Nat.reduceSub, Nat.reduceLT, Nat.reduceLeDiff, Int.reduceLE, Int.reduceLT, Int.reduceToNat, Int.reduceEq], .inr ⟨by simp [OC.scalar, CV.scalar], by simp⟩, ⟨by simp only [go_sem, ↓reduceIte, Nat.reduceEqDiff, Nat.reduceMul, Nat.reduceAdd, Nat.reduceDiv, Nat.reduceSub, Nat.reduceLT, Nat.reduceLeDiff, Int.reduceLE, Int.reduceLT, Int.reduceToNat, Int.reduceEq], by simp, by simp, by simp⟩, ?_⟩
        simp only [go_sem, ↓reduceIte, Nat.reduceEqDiff, Nat.reduceMul, Nat.reduceAdd, Nat.reduceDiv, Nat.reduceSub, Nat.reduceLT, Nat.reduceLeDiff, Int.reduceLE, Int.reduceLT, Int.reduceToNat, Int.reduceEq]
        have hm := canon_more hfam h.1 h.2
        refine ⟨fun h2 => ?_, fun h2 => ?_⟩
        · refine callK_1 _ (fun _ => cw22) (by simp only [go_sem, ↓reduceIte, Nat.reduceEqDiff, Nat.reduceMul, Nat.reduceAdd, Nat.reduceDiv, Nat.reduceSub, Nat.reduceLT, Nat.reduceLeDiff, Int.reduceLE, Int.reduceLT, Int.reduceToNat, Int.reduceEq]) rfl rfl ?_
          simp only [go_sem, ↓reduceIte, Nat.reduceEqDiff, Nat.reduceMul, Nat.reduceAdd, Nat.reduceDiv, Nat.reduceSub, Nat.reduceLT, Nat.reduceLeDiff, Int.reduceLE, Int.reduceLT, Int.reduceToNat, Int.reduceEq]
          repeat (refine ⟨by (first | omega | (intro h1 h2; exact ⟨h1, h2⟩) | (intro h1; omega) | (intro h1; exact h1) | trivial), ?_⟩)
          refine hQ _ _ ?_
          simp only [go_sem, ↓reduceIte, Nat.reduceEqDiff, Nat.reduceMul, Nat.reduceAdd, Nat.reduceDiv, Nat.reduceSub, Nat.reduceLT, Nat.reduceLeDiff, Int.reduceLE, Int.reduceLT, Int.reduceToNat, Int.reduceEq]
          rw [if_pos h2] at hm
          have hw2 : IntKind.i64.wrap ((canonP (l.take 120)).1 + 1) = (canonP (l.take 120)).1 + 1 := by rw [wrap_i64]; omega
          rw [hw2, ← hm.1, decide_eq_true rfl, Bool.true_and]
          congr 2
          rw [Bool.eq_iff_iff]
          simpa using hm.2
        · refine callK_1 _ (fun _ => cw22) (by simp only [go_sem, ↓reduceIte, Nat.reduceEqDiff, Nat.reduceMul, Nat.reduceAdd, Nat.reduceDiv, Nat.reduceSub, Nat.reduceLT, Nat.reduceLeDiff, Int.reduceLE, Int.reduceLT, Int.reduceToNat, Int.reduceEq]) rfl rfl ?_
          simp only [go_sem, ↓reduceIte, Nat.reduceEqDiff, Nat.reduceMul, Nat.reduceAdd, Nat.reduceDiv, Nat.reduceSub, Nat.reduceLT, Nat.reduceLeDiff, Int.reduceLE, Int.reduceLT, Int.reduceToNat, Int.reduceEq]
          repeat (refine ⟨by (first | omega | (intro h1 h2; exact ⟨h1, h2⟩) | (intro h1; omega) | (intro h1; exact h1) | trivial), ?_⟩)
          refine hQ _ _ ?_
          simp only [go_sem, ↓reduceIte, Nat.reduceEqDiff, Nat.reduceMul, Nat.reduceAdd, Nat.reduceDiv, Nat.reduceSub, Nat.reduceLT, Nat.reduceLeDiff, Int.reduceLE, Int.reduceLT, Int.reduceToNat, Int.reduceEq]
          rw [if_neg h2] at hm
          rw [← hm.1, decide_eq_true rfl, Bool.true_and]
          congr 2
          rw [Bool.eq_iff_iff]
          simpa using hm.2
theorem cw8 (l : List Rec) (r : Rec) (hl : ∀ r ∈ l, r.ok) (hn : l.length < 9223372036854775808) (hto : ∀ r ∈ l, r.to.length ≤ 35184372088832) (hr : r.ok) (hrt : r.to.length ≤ 35184372088832) : CW Try.prog 8 [.cv (.sl 8 (recs l)), .cv (Rec.cv r)] ⟨[.cv (.bool true)], []⟩ :=
  top8 rfl rfl [] trivial (w8 l r hl hn hto hr hrt _ fun σ H h => ret1 rfl h)
end Go.Proofs.Ytcpdnpaedkcebaa.V
