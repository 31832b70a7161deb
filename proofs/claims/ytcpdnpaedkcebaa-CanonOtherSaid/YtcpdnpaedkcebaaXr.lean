/- Contracts: what the law was told. -/
import Derived.Test.YtcpdnpaedkcebaaXq
namespace Go.Proofs.Ytcpdnpaedkcebaa.V
open Go Go.RowKit
set_option linter.unusedVariables false
set_option linter.unusedSimpArgs false
set_option maxRecDepth 100000
/- endonym/endonymlaw7.told -/
def b22 : IC := (.seq (.reg [⟨(some 0), 0, none, .mv (.c (.bool false))⟩]) (.seq (.reg [⟨(some 11), 1, none, .call (.c (.fn 45)) []⟩,
  ⟨(some 12), 11, none, .call (.c (.fn 26)) [((.t 11), .view 8)]⟩,
  ⟨(some 10), 0, none, .mv (.t 12)⟩,
  ⟨(some 13), 0, none, .ext (.t 10) 0⟩,
  ⟨(some 14), 0, none, .ext (.t 10) 1⟩,
  ⟨(some 1), 0, none, .mv (.t 13)⟩,
  ⟨(some 2), 0, none, .mv (.t 14)⟩]) (.seq (.reg [⟨(some 16), 21, none, .call (.c (.fn 45)) []⟩,
  ⟨(some 17), 31, none, .call (.c (.fn 24)) [((.t 16), .view 8), ((.c (.int .i32 192)), .plain)]⟩,
  ⟨(some 15), 0, none, .mv (.t 17)⟩,
  ⟨(some 18), 0, none, .ext (.t 15) 0⟩,
  ⟨(some 19), 0, none, .ext (.t 15) 1⟩,
  ⟨(some 3), 0, none, .mv (.t 18)⟩,
  ⟨(some 4), 0, none, .mv (.t 19)⟩]) (.seq (.reg [⟨(some 21), 41, none, .call (.c (.fn 16)) [((.c .nilsl), .view 8), ((.c (.int .i32 44033)), .plain)]⟩,
  ⟨(some 20), 0, none, .mv (.t 21)⟩,
  ⟨(some 22), 0, none, .ext (.t 20) 0⟩,
  ⟨(some 23), 0, none, .ext (.t 20) 1⟩,
  ⟨(some 24), 0, none, .ext (.t 20) 2⟩,
  ⟨(some 5), 0, none, .mv (.t 22)⟩,
  ⟨(some 6), 0, none, .mv (.t 23)⟩,
  ⟨(some 7), 0, none, .mv (.t 24)⟩]) (.seq (.reg [⟨(some 26), 51, none, .call (.c (.fn 45)) []⟩,
  ⟨(some 27), 0, none, .slc (.t 26) (some (.c (.int .i64 1))) none none 8⟩,
  ⟨(some 28), 61, none, .call (.c (.fn 26)) [((.t 27), .view 8)]⟩,
  ⟨(some 25), 0, none, .mv (.t 28)⟩,
  ⟨(some 29), 0, none, .ext (.t 25) 0⟩,
  ⟨(some 30), 0, none, .ext (.t 25) 1⟩,
  ⟨(some 8), 0, none, .mv (.t 29)⟩,
  ⟨(some 9), 0, none, .mv (.t 30)⟩]) (.seq (.reg [⟨(some 31), 0, none, .mv (.t 1)⟩,
  ⟨(some 32), 0, none, .bin .eql (.t 31) (.c (.int .i64 0))⟩,
  ⟨(some 33), 0, none, .mv (.t 32)⟩,
  ⟨(some 34), 0, (some (33, true)), .mv (.t 2)⟩,
  ⟨(some 35), 0, (some (33, true)), .bin .eql (.t 34) (.c (.int .i64 0))⟩,
  ⟨(some 36), 0, none, .pick (.t 33) (.t 35) (.c (.bool false))⟩,
  ⟨(some 37), 0, none, .mv (.t 36)⟩,
  ⟨(some 38), 0, (some (37, true)), .mv (.t 4)⟩,
  ⟨(some 39), 0, (some (37, true)), .bin .eql (.t 38) (.c (.int .i64 0))⟩,
  ⟨(some 40), 0, none, .pick (.t 37) (.t 39) (.c (.bool false))⟩,
  ⟨(some 41), 0, none, .mv (.t 40)⟩,
  ⟨(some 42), 0, (some (41, true)), .mv (.t 3)⟩,
  ⟨(some 43), 0, (some (41, true)), .len false (.t 42)⟩,
  ⟨(some 44), 0, (some (41, true)), .bin .eql (.t 43) (.c (.int .i64 2))⟩,
  ⟨(some 45), 0, none, .pick (.t 41) (.t 44) (.c (.bool false))⟩,
  ⟨(some 46), 0, none, .mv (.t 45)⟩,
  ⟨(some 47), 0, (some (46, true)), .mv (.t 3)⟩,
  ⟨(some 48), 0, (some (46, true)), .ia (.t 47) (.c (.int .i64 1)) 1⟩,
  ⟨(some 49), 0, (some (46, true)), .ld (.t 48) none⟩,
  ⟨(some 50), 0, (some (46, true)), .bin .eql (.t 49) (.c (.int .i32 768))⟩,
  ⟨(some 51), 0, none, .pick (.t 46) (.t 50) (.c (.bool false))⟩,
  ⟨(some 52), 0, none, .mv (.t 51)⟩,
  ⟨(some 53), 0, (some (52, true)), .mv (.t 7)⟩,
  ⟨(some 54), 0, none, .pick (.t 52) (.t 53) (.c (.bool false))⟩,
  ⟨(some 55), 0, none, .mv (.t 54)⟩,
  ⟨(some 56), 0, (some (55, true)), .mv (.t 5)⟩,
  ⟨(some 57), 0, (some (55, true)), .bin .eql (.t 56) (.c (.int .i32 44032))⟩,
  ⟨(some 58), 0, none, .pick (.t 55) (.t 57) (.c (.bool false))⟩,
  ⟨(some 59), 0, none, .mv (.t 58)⟩,
  ⟨(some 60), 0, (some (59, true)), .mv (.t 6)⟩,
  ⟨(some 61), 0, (some (59, true)), .bin .eql (.t 60) (.c (.int .i32 4520))⟩,
  ⟨(some 62), 0, none, .pick (.t 59) (.t 61) (.c (.bool false))⟩,
  ⟨(some 63), 0, none, .mv (.t 62)⟩,
  ⟨(some 64), 0, (some (63, true)), .mv (.t 8)⟩,
  ⟨(some 65), 0, (some (63, true)), .bin .eql (.t 64) (.c (.int .i64 4))⟩,
  ⟨(some 66), 0, none, .pick (.t 63) (.t 65) (.c (.bool false))⟩,
  ⟨(some 67), 0, none, .mv (.t 66)⟩,
  ⟨(some 68), 0, (some (67, true)), .mv (.t 9)⟩,
  ⟨(some 69), 0, (some (67, true)), .bin .eql (.t 68) (.c (.int .i64 70))⟩,
  ⟨(some 70), 0, none, .pick (.t 67) (.t 69) (.c (.bool false))⟩,
  ⟨(some 71), 0, none, .mv (.t 70)⟩,
  ⟨(some 72), 71, (some (71, true)), .call (.c (.fn 45)) []⟩,
  ⟨(some 73), 81, (some (71, true)), .call (.c (.fn 18)) [((.t 72), .view 8), ((.c (.int .i32 768)), .plain)]⟩,
  ⟨(some 74), 0, (some (71, true)), .bin .eql (.t 73) (.c (.int .i64 230))⟩,
  ⟨(some 75), 0, none, .pick (.t 71) (.t 74) (.c (.bool false))⟩,
  ⟨(some 76), 0, none, .mv (.t 75)⟩,
  ⟨(some 77), 91, (some (76, true)), .call (.c (.fn 45)) []⟩,
  ⟨(some 78), 101, (some (76, true)), .call (.c (.fn 15)) [((.t 77), .view 8), ((.c (.int .i32 44032)), .plain)]⟩,
  ⟨(some 79), 0, (some (76, true)), .len false (.t 78)⟩,
  ⟨(some 80), 0, (some (76, true)), .bin .eql (.t 79) (.c (.int .i64 2))⟩,
  ⟨(some 81), 0, none, .pick (.t 76) (.t 80) (.c (.bool false))⟩,
  ⟨(some 0), 0, none, .mv (.t 81)⟩]) .ret))))))
def rs22 : List (Nat × Option Nat × Mode) := [(0, none, .plain)]
theorem chk22 : chkC Try.prog Try.f22.ntmps b22 (Try.f22.body.getD .skip) = true := by decide +kernel
theorem top22 {args : List Arg} {out : Out} (ha : args.length.ble Try.f22.ntmps = true) (h8 : args.length.ble 8 = true) (mss : List (List (Option Nat))) (hb : backOK args out.back)
    (hw : rnC Try.prog b22 (topQ rs22 args mss out) (slotsOf (argsAV argBase args 0) 0) (argsOb argBase args 0)) : CW Try.prog 22 args out :=
  CW.of Try.func22 rs22 mss (by decide +kernel) (by decide +kernel) (by decide +kernel) ha h8 chk22 hb hw

theorem b_ok : ∀ r ∈ baseL, r.ok := by
  intro r hr
  simp only [baseL, List.mem_cons, List.not_mem_nil, or_false] at hr
  rcases hr with rfl | rfl | rfl | rfl | rfl <;> simp [Rec.ok, recP, i64ok, i32ok]
theorem b_to : ∀ r ∈ baseL, r.to.length ≤ 35184372088832 := by decide
theorem b_canon : canonP baseL = (0, 0) := by decide +kernel
theorem b_canon1 : canonP (baseL.drop 1) = (4, 70) := by decide +kernel
theorem b_full : fullL baseL 192 = .ok [65, 768] := by kernel_rfl
theorem b_prim : primL [] 44033 = (44032, 4520, true) := by decide +kernel
theorem b_class : classL baseL 768 = 230 := by decide +kernel
theorem b_open : openL baseL 44032 = [4352, 4449] := by decide +kernel
def bR : CV := .sl 8 (recs baseL)
theorem cw45p : CW Try.prog 45 [] ⟨[.cv bR], []⟩ := cw45.pubRes rfl
theorem cw26b : CW Try.prog 26 [.cv bR] ⟨[.cv (.int .i64 0), .cv (.int .i64 0)], []⟩ := by
  have := cw26 baseL b_ok b_to
  rw [b_canon] at this
  exact this
theorem cw26b1 : CW Try.prog 26 [.cv (.sl 8 (recs (baseL.drop 1)))] ⟨[.cv (.int .i64 4), .cv (.int .i64 70)], []⟩ := by
  have := cw26 (baseL.drop 1) (fun r hr => b_ok r (List.mem_of_mem_drop hr)) (fun r hr => b_to r (List.mem_of_mem_drop hr))
  rw [b_canon1] at this
  exact this
theorem cw24b : CW Try.prog 24 [.cv bR, .cv (.int .i32 192)] ⟨[.own 1 (runes [65, 768]), .cv (.int .i64 0)], []⟩ := by
  have := cw24 baseL b_ok (by decide) b_to 192 (by unfold i32ok; omega)
  rw [b_full] at this
  exact this
theorem cw16b : CW Try.prog 16 [.cv (.sl 8 []), .cv (.int .i32 44033)] ⟨[.cv (.int .i32 44032), .cv (.int .i32 4520), .cv (.bool true)], []⟩ := by
  have := cw16 [] 44033 (by simp) (by simp) (by unfold i32ok; omega)
  rw [b_prim] at this
  exact this
theorem cw18b : CW Try.prog 18 [.cv bR, .cv (.int .i32 768)] ⟨[.cv (.int .i64 230)], []⟩ := by
  have := cw18 baseL 768 b_ok (by decide) (by unfold i32ok; omega)
  rw [b_class] at this
  exact this
theorem cw15b : CW Try.prog 15 [.cv bR, .cv (.int .i32 44032)] ⟨[.cv (.sl 1 (runes [4352, 4449]))], []⟩ := by
  have := cw15 baseL 44032 b_ok (by decide) b_to (by unfold i32ok; omega)
  rw [b_open] at this
  exact this.pubRes rfl
theorem w22  (Q : Ex → Slots → LH → Prop) (hQ : ∀ σ H, Slots.get σ 0 = .c (.bool true) → Q .ret σ H) : rnC Try.prog b22 Q [] [] := by
  unfold b22
  simp only [go_sem, ↓reduceIte, Nat.reduceEqDiff, Nat.reduceMul, Nat.reduceAdd, Nat.reduceDiv, Nat.reduceSub, Nat.reduceLT, Nat.reduceLeDiff, Int.reduceLE, Int.reduceLT, Int.reduceToNat, Int.reduceEq]
  refine callK_1 _ (fun _ => cw45p) (by simp only [go_sem, ↓reduceIte, Nat.reduceEqDiff, Nat.reduceMul, Nat.reduceAdd, Nat.reduceDiv, Nat.reduceSub, Nat.reduceLT, Nat.reduceLeDiff, Int.reduceLE, Int.reduceLT, Int.reduceToNat, Int.reduceEq]) rfl rfl ?_
  simp only [go_sem, ↓reduceIte, Nat.reduceEqDiff, Nat.reduceMul, Nat.reduceAdd, Nat.reduceDiv, Nat.reduceSub, Nat.reduceLT, Nat.reduceLeDiff, Int.reduceLE, Int.reduceLT, Int.reduceToNat, Int.reduceEq]
  repeat (refine ⟨by (first | omega | (intro h1 h2; exact ⟨h1, h2⟩) | (intro h1; omega) | (intro h1; exact h1) | trivial), ?_⟩)
  refine callK_2 _ _ (fun _ => cw26b) (by simp only [go_sem, ↓reduceIte, Nat.reduceEqDiff, Nat.reduceMul, Nat.reduceAdd, Nat.reduceDiv, Nat.reduceSub, Nat.reduceLT, Nat.reduceLeDiff, Int.reduceLE, Int.reduceLT, Int.reduceToNat, Int.reduceEq]) rfl rfl ?_
  simp only [go_sem, ↓reduceIte, Nat.reduceEqDiff, Nat.reduceMul, Nat.reduceAdd, Nat.reduceDiv, Nat.reduceSub, Nat.reduceLT, Nat.reduceLeDiff, Int.reduceLE, Int.reduceLT, Int.reduceToNat, Int.reduceEq]
  repeat (refine ⟨by (first | omega | (intro h1 h2; exact ⟨h1, h2⟩) | (intro h1; omega) | (intro h1; exact h1) | trivial), ?_⟩)
  refine callK_1 _ (fun _ => cw45p) (by simp only [go_sem, ↓reduceIte, Nat.reduceEqDiff, Nat.reduceMul, Nat.reduceAdd, Nat.reduceDiv, Nat.reduceSub, Nat.reduceLT, Nat.reduceLeDiff, Int.reduceLE, Int.reduceLT, Int.reduceToNat, Int.reduceEq]) rfl rfl ?_
  simp only [go_sem, ↓reduceIte, Nat.reduceEqDiff, Nat.reduceMul, Nat.reduceAdd, Nat.reduceDiv, Nat.reduceSub, Nat.reduceLT, Nat.reduceLeDiff, Int.reduceLE, Int.reduceLT, Int.reduceToNat, Int.reduceEq]
  repeat (refine ⟨by (first | omega | (intro h1 h2; exact ⟨h1, h2⟩) | (intro h1; omega) | (intro h1; exact h1) | trivial), ?_⟩)
  refine callK_i ⟨[.own 1 (runes [65, 768]), .cv (.int .i64 0)], []⟩ (fun _ => cw24b) ⟨by simp only [go_sem, ↓reduceIte, Nat.reduceEqDiff, Nat.reduceMul, Nat.reduceAdd, Nat.reduceDiv, Nat.reduceSub, Nat.reduceLT, Nat.reduceLeDiff, Int.reduceLE, Int.reduceLT, Int.reduceToNat, Int.reduceEq], .inl rfl, ⟨by simp only [go_sem, ↓reduceIte, Nat.reduceEqDiff, Nat.reduceMul, Nat.reduceAdd, Nat.reduceDiv, Nat.reduceSub, Nat.reduceLT, Nat.reduceLeDiff, Int.reduceLE, Int.reduceLT, Int.reduceToNat, Int.reduceEq], by simp, by simp, by simp⟩, ?_⟩
  simp only [go_sem, ↓reduceIte, Nat.reduceEqDiff, Nat.reduceMul, Nat.reduceAdd, Nat.reduceDiv, Nat.reduceSub, Nat.reduceLT, Nat.reduceLeDiff, Int.reduceLE, Int.reduceLT, Int.reduceToNat, Int.reduceEq]
  refine callK_3 _ _ _ (fun _ => cw16b) (by simp only [go_sem, ↓reduceIte, Nat.reduceEqDiff, Nat.reduceMul, Nat.reduceAdd, Nat.reduceDiv, Nat.reduceSub, Nat.reduceLT, Nat.reduceLeDiff, Int.reduceLE, Int.reduceLT, Int.reduceToNat, Int.reduceEq]) rfl rfl ?_
  simp only [go_sem, ↓reduceIte, Nat.reduceEqDiff, Nat.reduceMul, Nat.reduceAdd, Nat.reduceDiv, Nat.reduceSub, Nat.reduceLT, Nat.reduceLeDiff, Int.reduceLE, Int.reduceLT, Int.reduceToNat, Int.reduceEq]
  repeat (refine ⟨by (first | omega | (intro h1 h2; exact ⟨h1, h2⟩) | (intro h1; omega) | (intro h1; exact h1) | trivial), ?_⟩)
  refine callK_1 _ (fun _ => cw45p) (by simp only [go_sem, ↓reduceIte, Nat.reduceEqDiff, Nat.reduceMul, Nat.reduceAdd, Nat.reduceDiv, Nat.reduceSub, Nat.reduceLT, Nat.reduceLeDiff, Int.reduceLE, Int.reduceLT, Int.reduceToNat, Int.reduceEq]) rfl rfl ?_
  simp only [go_sem, ↓reduceIte, Nat.reduceEqDiff, Nat.reduceMul, Nat.reduceAdd, Nat.reduceDiv, Nat.reduceSub, Nat.reduceLT, Nat.reduceLeDiff, Int.reduceLE, Int.reduceLT, Int.reduceToNat, Int.reduceEq]
  repeat (refine ⟨by (first | omega | (intro h1 h2; exact ⟨h1, h2⟩) | (intro h1; omega) | (intro h1; exact h1) | trivial), ?_⟩)
  have e1 : bR = .sl 8 (recs baseL) := rfl
  simp only [go_sem, ↓reduceIte, Nat.reduceEqDiff, Nat.reduceMul, Nat.reduceAdd, Nat.reduceDiv, Nat.reduceSub, Nat.reduceLT, Nat.reduceLeDiff, Int.reduceLE, Int.reduceLT, Int.reduceToNat, Int.reduceEq, e1, show baseL.length = 5 from rfl]
  refine callK_2 _ _ (fun _ => cw26b1) (by simp only [go_sem, ↓reduceIte, Nat.reduceEqDiff, Nat.reduceMul, Nat.reduceAdd, Nat.reduceDiv, Nat.reduceSub, Nat.reduceLT, Nat.reduceLeDiff, Int.reduceLE, Int.reduceLT, Int.reduceToNat, Int.reduceEq]) rfl rfl ?_
  simp only [go_sem, ↓reduceIte, Nat.reduceEqDiff, Nat.reduceMul, Nat.reduceAdd, Nat.reduceDiv, Nat.reduceSub, Nat.reduceLT, Nat.reduceLeDiff, Int.reduceLE, Int.reduceLT, Int.reduceToNat, Int.reduceEq]
  repeat (refine ⟨by (first | omega | (intro h1 h2; exact ⟨h1, h2⟩) | (intro h1; omega) | (intro h1; exact h1) | trivial), ?_⟩)
  refine callK_1 _ (fun _ => cw45p) (by simp only [go_sem, ↓reduceIte, Nat.reduceEqDiff, Nat.reduceMul, Nat.reduceAdd, Nat.reduceDiv, Nat.reduceSub, Nat.reduceLT, Nat.reduceLeDiff, Int.reduceLE, Int.reduceLT, Int.reduceToNat, Int.reduceEq]) rfl rfl ?_
  simp only [go_sem, ↓reduceIte, Nat.reduceEqDiff, Nat.reduceMul, Nat.reduceAdd, Nat.reduceDiv, Nat.reduceSub, Nat.reduceLT, Nat.reduceLeDiff, Int.reduceLE, Int.reduceLT, Int.reduceToNat, Int.reduceEq]
  repeat (refine ⟨by (first | omega | (intro h1 h2; exact ⟨h1, h2⟩) | (intro h1; omega) | (intro h1; exact h1) | trivial), ?_⟩)
  refine callK_1 _ (fun _ => cw18b) (by simp only [go_sem, ↓reduceIte, Nat.reduceEqDiff, Nat.reduceMul, Nat.reduceAdd, Nat.reduceDiv, Nat.reduceSub, Nat.reduceLT, Nat.reduceLeDiff, Int.reduceLE, Int.reduceLT, Int.reduceToNat, Int.reduceEq]) rfl rfl ?_
  simp only [go_sem, ↓reduceIte, Nat.reduceEqDiff, Nat.reduceMul, Nat.reduceAdd, Nat.reduceDiv, Nat.reduceSub, Nat.reduceLT, Nat.reduceLeDiff, Int.reduceLE, Int.reduceLT, Int.reduceToNat, Int.reduceEq]
  repeat (refine ⟨by (first | omega | (intro h1 h2; exact ⟨h1, h2⟩) | (intro h1; omega) | (intro h1; exact h1) | trivial), ?_⟩)
  refine callK_1 _ (fun _ => cw45p) (by simp only [go_sem, ↓reduceIte, Nat.reduceEqDiff, Nat.reduceMul, Nat.reduceAdd, Nat.reduceDiv, Nat.reduceSub, Nat.reduceLT, Nat.reduceLeDiff, Int.reduceLE, Int.reduceLT, Int.reduceToNat, Int.reduceEq]) rfl rfl ?_
  simp only [go_sem, ↓reduceIte, Nat.reduceEqDiff, Nat.reduceMul, Nat.reduceAdd, Nat.reduceDiv, Nat.reduceSub, Nat.reduceLT, Nat.reduceLeDiff, Int.reduceLE, Int.reduceLT, Int.reduceToNat, Int.reduceEq]
  repeat (refine ⟨by (first | omega | (intro h1 h2; exact ⟨h1, h2⟩) | (intro h1; omega) | (intro h1; exact h1) | trivial), ?_⟩)
  refine callK_1 _ (fun _ => cw15b) (by simp only [go_sem, ↓reduceIte, Nat.reduceEqDiff, Nat.reduceMul, Nat.reduceAdd, Nat.reduceDiv, Nat.reduceSub, Nat.reduceLT, Nat.reduceLeDiff, Int.reduceLE, Int.reduceLT, Int.reduceToNat, Int.reduceEq]) rfl rfl ?_
  simp only [go_sem, ↓reduceIte, Nat.reduceEqDiff, Nat.reduceMul, Nat.reduceAdd, Nat.reduceDiv, Nat.reduceSub, Nat.reduceLT, Nat.reduceLeDiff, Int.reduceLE, Int.reduceLT, Int.reduceToNat, Int.reduceEq]
  repeat (refine ⟨by (first | omega | (intro h1 h2; exact ⟨h1, h2⟩) | (intro h1; omega) | (intro h1; exact h1) | trivial), ?_⟩)
  exact hQ _ _ rfl
theorem cw22  : CW Try.prog 22 [] ⟨[.cv (.bool true)], []⟩ :=
  top22 rfl rfl [] trivial (w22  _ fun σ H h => ret1 rfl h)
end Go.Proofs.Ytcpdnpaedkcebaa.V
