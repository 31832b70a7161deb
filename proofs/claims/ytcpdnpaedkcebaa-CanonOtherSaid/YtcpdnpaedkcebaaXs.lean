/- Contracts: the laws. -/
import Derived.Test.YtcpdnpaedkcebaaXr
namespace Go.Proofs.Ytcpdnpaedkcebaa.V
open Go Go.RowKit
set_option linter.unusedVariables false
set_option linter.unusedSimpArgs false
set_option maxRecDepth 100000
/- endonym/endonymlaw7.CanonChecks -/
def b5 : IC := (.seq (.reg [⟨(some 2), 0, none, .mv (.c (.bool false))⟩]) (.seq (.reg [⟨(some 8), 0, none, .mv (.t 0)⟩,
  ⟨(some 9), 1, none, .call (.c (.fn 14)) [((.t 8), .view 8), ((.c (.int .i64 120)), .plain)]⟩,
  ⟨(some 3), 0, none, .mv (.t 9)⟩]) (.seq (.reg [⟨(some 11), 0, none, .mv (.t 3)⟩,
  ⟨(some 12), 11, none, .call (.c (.fn 26)) [((.t 11), .view 8)]⟩,
  ⟨(some 10), 0, none, .mv (.t 12)⟩,
  ⟨(some 13), 0, none, .ext (.t 10) 0⟩,
  ⟨(some 14), 0, none, .ext (.t 10) 1⟩,
  ⟨(some 4), 0, none, .mv (.t 13)⟩,
  ⟨(some 5), 0, none, .mv (.t 14)⟩]) (.seq (.reg [⟨(some 16), 0, none, .mv (.t 0)⟩,
  ⟨(some 17), 0, none, .mv (.t 3)⟩,
  ⟨(some 18), 0, none, .len false (.t 17)⟩,
  ⟨(some 19), 0, none, .slc (.t 16) none (some (.t 18)) none 8⟩,
  ⟨(some 20), 21, none, .call (.c (.fn 27)) [((.t 19), .view 8)]⟩,
  ⟨(some 15), 0, none, .mv (.t 20)⟩,
  ⟨(some 21), 0, none, .ext (.t 15) 0⟩,
  ⟨(some 22), 0, none, .ext (.t 15) 1⟩,
  ⟨(some 6), 0, none, .mv (.t 21)⟩,
  ⟨(some 7), 0, none, .mv (.t 22)⟩]) (.seq (.reg [⟨(some 23), 31, none, .call (.c (.fn 22)) []⟩,
  ⟨(some 24), 0, none, .mv (.t 23)⟩,
  ⟨(some 25), 0, (some (24, true)), .mv (.t 4)⟩,
  ⟨(some 26), 0, (some (24, true)), .mv (.t 6)⟩,
  ⟨(some 27), 0, (some (24, true)), .bin .eql (.t 25) (.t 26)⟩,
  ⟨(some 28), 0, none, .pick (.t 24) (.t 27) (.c (.bool false))⟩,
  ⟨(some 29), 0, none, .mv (.t 28)⟩,
  ⟨(some 30), 0, (some (29, true)), .mv (.t 5)⟩,
  ⟨(some 31), 0, (some (29, true)), .mv (.t 7)⟩,
  ⟨(some 32), 0, (some (29, true)), .bin .eql (.t 30) (.t 31)⟩,
  ⟨(some 33), 0, none, .pick (.t 29) (.t 32) (.c (.bool false))⟩,
  ⟨(some 34), 0, none, .mv (.t 33)⟩,
  ⟨(some 35), 0, (some (34, true)), .mv (.t 3)⟩,
  ⟨(some 36), 0, (some (34, true)), .mv (.t 0)⟩,
  ⟨(some 37), 0, (some (34, true)), .mv (.t 3)⟩,
  ⟨(some 38), 0, (some (34, true)), .len false (.t 37)⟩,
  ⟨(some 39), 0, (some (34, true)), .slc (.t 36) none (some (.t 38)) none 8⟩,
  ⟨(some 40), 41, (some (34, true)), .call (.c (.fn 23)) [((.t 35), .view 8), ((.t 39), .view 8)]⟩,
  ⟨(some 41), 0, none, .pick (.t 34) (.t 40) (.c (.bool false))⟩,
  ⟨(some 2), 0, none, .mv (.t 41)⟩]) .ret)))))
def rs5 : List (Nat × Option Nat × Mode) := [(2, none, .plain)]
theorem chk5 : chkC Try.prog Try.f5.ntmps b5 (Try.f5.body.getD .skip) = true := by decide +kernel
theorem top5 {args : List Arg} {out : Out} (ha : args.length.ble Try.f5.ntmps = true) (h8 : args.length.ble 8 = true) (mss : List (List (Option Nat))) (hb : backOK args out.back)
    (hw : rnC Try.prog b5 (topQ rs5 args mss out) (slotsOf (argsAV argBase args 0) 0) (argsOb argBase args 0)) : CW Try.prog 5 args out :=
  CW.of Try.func5 rs5 mss (by decide +kernel) (by decide +kernel) (by decide +kernel) ha h8 chk5 hb hw

theorem slc_self (l : List Rec) (n : Nat) : List.take ((l.take n).length - 0) (recs l) = recs (l.take n) := by
  rw [Nat.sub_zero, List.length_take, recs, recs, ← List.map_take]
  congr 1
  rcases Nat.le_total n l.length with h | h
  · rw [Nat.min_eq_left h]
  · rw [Nat.min_eq_right h, List.take_length, List.take_of_length_le h]
theorem take_len (l : List Rec) (n : Nat) : (l.take n).length ≤ n ∧ (l.take n).length ≤ l.length := by rw [List.length_take]; omega
theorem w5 (l : List Rec) (hl : ∀ r ∈ l, r.ok) (hn : l.length < 9223372036854775808) (hto : ∀ r ∈ l, r.to.length ≤ 35184372088832) (heq : canonP (l.take 120) = canonF (l.take 120)) (Q : Ex → Slots → LH → Prop) (hQ : ∀ σ H, Slots.get σ 2 = .c (.bool true) → Q .ret σ H) : rnC Try.prog b5 Q [(0, .c (.sl 8 (recs l)))] [] := by
  unfold b5
  have hl' : ∀ r ∈ l.take 120, r.ok := fun r hr => hl r (List.mem_of_mem_take hr)
  have hto' : ∀ r ∈ l.take 120, r.to.length ≤ 35184372088832 := fun r hr => hto r (List.mem_of_mem_take hr)
  obtain ⟨hn1, hn2⟩ := take_len l 120
  have c14 : CW Try.prog 14 [.cv (.sl 8 (recs l)), .cv (.int .i64 120)] ⟨[.cv (.sl 8 (recs (l.take 120)))], []⟩ := (cw14 l 120 (by omega) hn hto).pubRes rfl
  simp only [go_sem, ↓reduceIte, Nat.reduceEqDiff, Nat.reduceMul, Nat.reduceAdd, Nat.reduceDiv, Nat.reduceSub, Nat.reduceLT, Nat.reduceLeDiff, Int.reduceLE, Int.reduceLT, Int.reduceToNat, Int.reduceEq]
  refine callK_1 _ (fun _ => c14) (by simp only [go_sem, ↓reduceIte, Nat.reduceEqDiff, Nat.reduceMul, Nat.reduceAdd, Nat.reduceDiv, Nat.reduceSub, Nat.reduceLT, Nat.reduceLeDiff, Int.reduceLE, Int.reduceLT, Int.reduceToNat, Int.reduceEq]) rfl rfl ?_
  simp only [go_sem, ↓reduceIte, Nat.reduceEqDiff, Nat.reduceMul, Nat.reduceAdd, Nat.reduceDiv, Nat.reduceSub, Nat.reduceLT, Nat.reduceLeDiff, Int.reduceLE, Int.reduceLT, Int.reduceToNat, Int.reduceEq]
  repeat (refine ⟨by (first | omega | (intro h1 h2; exact ⟨h1, h2⟩) | (intro h1; omega) | (intro h1; exact h1) | trivial), ?_⟩)
  refine callK_2 _ _ (fun _ => cw26 (l.take 120) hl' hto') (by simp only [go_sem, ↓reduceIte, Nat.reduceEqDiff, Nat.reduceMul, Nat.reduceAdd, Nat.reduceDiv, Nat.reduceSub, Nat.reduceLT, Nat.reduceLeDiff, Int.reduceLE, Int.reduceLT, Int.reduceToNat, Int.reduceEq]) rfl rfl ?_
  simp only [go_sem, ↓reduceIte, Nat.reduceEqDiff, Nat.reduceMul, Nat.reduceAdd, Nat.reduceDiv, Nat.reduceSub, Nat.reduceLT, Nat.reduceLeDiff, Int.reduceLE, Int.reduceLT, Int.reduceToNat, Int.reduceEq]
  repeat (refine ⟨by (first | omega | (intro h1 h2; exact ⟨h1, h2⟩) | (intro h1; omega) | (intro h1; exact h1) | trivial), ?_⟩)
  rw [slc_self]
  refine callK_2 _ _ (fun _ => cw27 (l.take 120) hl' (by omega) hto') (by simp only [go_sem, ↓reduceIte, Nat.reduceEqDiff, Nat.reduceMul, Nat.reduceAdd, Nat.reduceDiv, Nat.reduceSub, Nat.reduceLT, Nat.reduceLeDiff, Int.reduceLE, Int.reduceLT, Int.reduceToNat, Int.reduceEq]) rfl rfl ?_
  simp only [go_sem, ↓reduceIte, Nat.reduceEqDiff, Nat.reduceMul, Nat.reduceAdd, Nat.reduceDiv, Nat.reduceSub, Nat.reduceLT, Nat.reduceLeDiff, Int.reduceLE, Int.reduceLT, Int.reduceToNat, Int.reduceEq]
  repeat (refine ⟨by (first | omega | (intro h1 h2; exact ⟨h1, h2⟩) | (intro h1; omega) | (intro h1; exact h1) | trivial), ?_⟩)
  refine callK_1 _ (fun _ => cw22) (by simp only [go_sem, ↓reduceIte, Nat.reduceEqDiff, Nat.reduceMul, Nat.reduceAdd, Nat.reduceDiv, Nat.reduceSub, Nat.reduceLT, Nat.reduceLeDiff, Int.reduceLE, Int.reduceLT, Int.reduceToNat, Int.reduceEq]) rfl rfl ?_
  simp only [go_sem, ↓reduceIte, Nat.reduceEqDiff, Nat.reduceMul, Nat.reduceAdd, Nat.reduceDiv, Nat.reduceSub, Nat.reduceLT, Nat.reduceLeDiff, Int.reduceLE, Int.reduceLT, Int.reduceToNat, Int.reduceEq]
  repeat (refine ⟨by (first | omega | (intro h1 h2; exact ⟨h1, h2⟩) | (intro h1; omega) | (intro h1; exact h1) | trivial), ?_⟩)
  rw [heq]
  rw [slc_self]
  refine callK_1 _ (fun _ => cw23 (l.take 120) (l.take 120) (by omega) (by omega) hto' hto') (by simp only [go_sem, ↓reduceIte, Nat.reduceEqDiff, Nat.reduceMul, Nat.reduceAdd, Nat.reduceDiv, Nat.reduceSub, Nat.reduceLT, Nat.reduceLeDiff, Int.reduceLE, Int.reduceLT, Int.reduceToNat, Int.reduceEq]) rfl rfl ?_
  simp only [go_sem, ↓reduceIte, Nat.reduceEqDiff, Nat.reduceMul, Nat.reduceAdd, Nat.reduceDiv, Nat.reduceSub, Nat.reduceLT, Nat.reduceLeDiff, Int.reduceLE, Int.reduceLT, Int.reduceToNat, Int.reduceEq]
  repeat (refine ⟨by (first | omega | (intro h1 h2; exact ⟨h1, h2⟩) | (intro h1; omega) | (intro h1; exact h1) | trivial), ?_⟩)
  rw [sameL_self]
  refine hQ _ _ ?_
  simp only [go_sem, ↓reduceIte, Nat.reduceEqDiff, Nat.reduceMul, Nat.reduceAdd, Nat.reduceDiv, Nat.reduceSub, Nat.reduceLT, Nat.reduceLeDiff, Int.reduceLE, Int.reduceLT, Int.reduceToNat, Int.reduceEq]
theorem cw5 (l : List Rec) (hl : ∀ r ∈ l, r.ok) (hn : l.length < 9223372036854775808) (hto : ∀ r ∈ l, r.to.length ≤ 35184372088832) (heq : canonP (l.take 120) = canonF (l.take 120)) : CW Try.prog 5 [.cv (.sl 8 (recs l))] ⟨[.cv (.bool true)], []⟩ :=
  top5 rfl rfl [] trivial (w5 l hl hn hto heq _ fun σ H h => ret1 rfl h)
end Go.Proofs.Ytcpdnpaedkcebaa.V
