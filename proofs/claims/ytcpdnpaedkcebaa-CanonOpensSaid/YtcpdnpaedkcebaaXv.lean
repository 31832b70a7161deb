/- Contracts: the law CanonOpens. -/
import Derived.Test.YtcpdnpaedkcebaaXs
namespace Go.Proofs.Ytcpdnpaedkcebaa.V
open Go Go.RowKit
set_option linter.unusedVariables false
set_option linter.unusedSimpArgs false
set_option maxRecDepth 100000
/- endonym/endonymlaw7.CanonOpens -/
def l3_1 : IC := (.seq (.seq (.reg [⟨(some 88), 0, none, .mv (.t 15)⟩,
  ⟨(some 89), 0, none, .mv (.t 8)⟩,
  ⟨(some 90), 0, none, .len false (.t 89)⟩,
  ⟨(some 91), 0, none, .bin .lss (.t 88) (.t 90)⟩]) (.cond (.t 91) .skip (.exit 2))) (.seq (.block 3 (.reg [⟨(some 94), 0, none, .mv (.t 8)⟩,
  ⟨(some 95), 0, none, .mv (.t 15)⟩,
  ⟨(some 96), 0, none, .ia (.t 94) (.t 95) 1⟩,
  ⟨none, 0, none, .st (.t 96) (.c (.int .i32 (-9))) none⟩])) (.reg [⟨(some 92), 0, none, .mv (.t 15)⟩,
  ⟨(some 93), 0, none, .bin .add (.t 92) (.c (.int .i64 1))⟩,
  ⟨(some 15), 0, none, .mv (.t 93)⟩])))
def n3_1 : Norm := ⟨[(0, .plain), (1, .plain), (5, .plain), (6, .plain), (8, .own 1 1000008), (15, .plain)], []⟩
def l3_0 : IC := (.seq (.seq (.reg [⟨(some 18), 0, none, .mv (.t 6)⟩,
  ⟨(some 19), 0, none, .mv (.t 1)⟩,
  ⟨(some 20), 0, none, .len false (.t 19)⟩,
  ⟨(some 21), 0, none, .bin .lss (.t 18) (.t 20)⟩,
  ⟨(some 22), 0, none, .mv (.t 21)⟩,
  ⟨(some 23), 0, (some (22, true)), .mv (.t 6)⟩,
  ⟨(some 24), 0, (some (22, true)), .bin .lss (.t 23) (.c (.int .i64 60))⟩,
  ⟨(some 25), 0, none, .pick (.t 22) (.t 24) (.c (.bool false))⟩]) (.cond (.t 25) .skip (.exit 0))) (.seq (.block 1 (.seq (.reg [⟨(some 28), 0, none, .mv (.t 1)⟩,
  ⟨(some 29), 0, none, .mv (.t 6)⟩,
  ⟨(some 30), 0, none, .ia (.t 28) (.t 29) 1⟩,
  ⟨(some 31), 0, none, .ld (.t 30) none⟩,
  ⟨(some 7), 0, none, .mv (.t 31)⟩]) (.seq (.reg [⟨(some 32), 0, none, .mv (.t 5)⟩,
  ⟨(some 33), 0, none, .mv (.t 7)⟩,
  ⟨(some 34), 11, none, .call (.c (.fn 15)) [((.t 32), .view 8), ((.t 33), .plain)]⟩,
  ⟨(some 8), 0, none, .mv (.t 34)⟩]) (.seq (.reg [⟨(some 36), 0, none, .mv (.t 5)⟩,
  ⟨(some 37), 0, none, .mv (.t 7)⟩,
  ⟨(some 38), 21, none, .call (.c (.fn 16)) [((.t 36), .view 8), ((.t 37), .plain)]⟩,
  ⟨(some 35), 0, none, .mv (.t 38)⟩,
  ⟨(some 39), 0, none, .ext (.t 35) 0⟩,
  ⟨(some 40), 0, none, .ext (.t 35) 1⟩,
  ⟨(some 41), 0, none, .ext (.t 35) 2⟩,
  ⟨(some 9), 0, none, .mv (.t 39)⟩,
  ⟨(some 10), 0, none, .mv (.t 40)⟩,
  ⟨(some 11), 0, none, .mv (.t 41)⟩]) (.seq (.reg [⟨(some 43), 0, none, .mv (.t 0)⟩,
  ⟨(some 44), 0, none, .mv (.t 5)⟩,
  ⟨(some 45), 0, none, .len false (.t 44)⟩,
  ⟨(some 46), 0, none, .slc (.t 43) none (some (.t 45)) none 8⟩,
  ⟨(some 47), 0, none, .mv (.t 7)⟩,
  ⟨(some 48), 31, none, .call (.c (.fn 17)) [((.t 46), .view 8), ((.t 47), .plain)]⟩,
  ⟨(some 42), 0, none, .mv (.t 48)⟩,
  ⟨(some 49), 0, none, .ext (.t 42) 0⟩,
  ⟨(some 50), 0, none, .ext (.t 42) 1⟩,
  ⟨(some 51), 0, none, .ext (.t 42) 2⟩,
  ⟨(some 12), 0, none, .mv (.t 49)⟩,
  ⟨(some 13), 0, none, .mv (.t 50)⟩,
  ⟨(some 14), 0, none, .mv (.t 51)⟩]) (.seq (.seq (.draw (.take 0 ⟨(some 52), 0, none, .mv (.t 5)⟩ (.take 1 ⟨(some 53), 0, none, .mv (.t 7)⟩ (.take 3 ⟨(some 55), 0, none, .mv (.t 0)⟩ (.take 4 ⟨(some 56), 0, none, .mv (.t 5)⟩ (.take 5 ⟨(some 57), 0, none, .len false (.t 56)⟩ (.take 6 ⟨(some 58), 0, none, .slc (.t 55) none (some (.t 57)) none 8⟩ (.take 7 ⟨(some 59), 0, none, .mv (.t 7)⟩ (.br 2 ⟨(some 54), 41, none, .call (.c (.fn 18)) [((.t 52), .view 8), ((.t 53), .plain)]⟩ [true, true, true, true, true, false, false] (.br 8 ⟨(some 60), 51, none, .call (.c (.fn 19)) [((.t 58), .view 8), ((.t 59), .plain)]⟩ [false, false, true, true, true] (.take 9 ⟨(some 61), 0, none, .bin .neq (.t 54) (.t 60)⟩ (.take 10 ⟨(some 62), 0, none, .mv (.t 61)⟩ (.take 11 ⟨(some 63), 0, (some (62, false)), .mv (.t 8)⟩ (.take 12 ⟨(some 64), 0, (some (62, false)), .mv (.t 0)⟩ (.take 13 ⟨(some 65), 0, (some (62, false)), .mv (.t 5)⟩ (.take 14 ⟨(some 66), 0, (some (62, false)), .len false (.t 65)⟩ (.take 15 ⟨(some 67), 0, (some (62, false)), .slc (.t 64) none (some (.t 66)) none 8⟩ (.take 16 ⟨(some 68), 0, (some (62, false)), .mv (.t 7)⟩ (.br 17 ⟨(some 69), 61, (some (62, false)), .call (.c (.fn 21)) [((.t 67), .view 8), ((.t 68), .plain)]⟩ [false, false, true, true, true, true, false, true, true, true, true] (.br 18 ⟨(some 70), 71, (some (62, false)), .call (.c (.fn 20)) [((.t 63), .view 1), ((.t 69), .view 1)]⟩ [true, true, true, false, true, true, true, true] (.take 19 ⟨(some 71), 0, (some (62, false)), .not (.t 70)⟩ (.take 20 ⟨(some 72), 0, none, .pick (.t 62) (.c (.bool true)) (.t 71)⟩ (.take 21 ⟨(some 73), 0, none, .mv (.t 72)⟩ (.take 22 ⟨(some 74), 0, (some (73, false)), .mv (.t 9)⟩ (.take 23 ⟨(some 75), 0, (some (73, false)), .mv (.t 12)⟩ (.take 24 ⟨(some 76), 0, (some (73, false)), .bin .neq (.t 74) (.t 75)⟩ (.take 25 ⟨(some 77), 0, none, .pick (.t 73) (.c (.bool true)) (.t 76)⟩ (.take 26 ⟨(some 78), 0, none, .mv (.t 77)⟩ (.take 27 ⟨(some 79), 0, (some (78, false)), .mv (.t 10)⟩ (.take 28 ⟨(some 80), 0, (some (78, false)), .mv (.t 13)⟩ (.take 29 ⟨(some 81), 0, (some (78, false)), .bin .neq (.t 79) (.t 80)⟩ (.take 30 ⟨(some 82), 0, none, .pick (.t 78) (.c (.bool true)) (.t 81)⟩ (.take 31 ⟨(some 83), 0, none, .mv (.t 82)⟩ (.take 32 ⟨(some 84), 0, (some (83, false)), .mv (.t 11)⟩ (.take 33 ⟨(some 85), 0, (some (83, false)), .mv (.t 14)⟩ (.take 34 ⟨(some 86), 0, (some (83, false)), .bne (.t 84) (.t 85)⟩ (.take 35 ⟨(some 87), 0, none, .pick (.t 83) (.c (.bool true)) (.t 86)⟩ .done))))))))))))))))) .no) .no))))))))) .no) .no))))))))) (.cond (.t 87) (.seq (.reg [⟨(some 4), 0, none, .mv (.c (.bool false))⟩]) .ret) .skip)) (.seq (.reg [⟨(some 15), 0, none, .mv (.c (.int .i64 0))⟩]) (.block 2 (.loop n3_1 l3_1))))))))) (.reg [⟨(some 26), 0, none, .mv (.t 6)⟩,
  ⟨(some 27), 0, none, .bin .add (.t 26) (.c (.int .i64 1))⟩,
  ⟨(some 6), 0, none, .mv (.t 27)⟩])))
def n3_0 : Norm := ⟨[(0, .plain), (1, .plain), (5, .plain), (6, .plain)], []⟩
def b3 : IC := (.seq (.reg [⟨(some 4), 0, none, .mv (.c (.bool false))⟩]) (.seq (.reg [⟨(some 16), 0, none, .mv (.t 0)⟩,
  ⟨(some 17), 1, none, .call (.c (.fn 14)) [((.t 16), .view 8), ((.c (.int .i64 120)), .plain)]⟩,
  ⟨(some 5), 0, none, .mv (.t 17)⟩]) (.seq (.seq (.reg [⟨(some 6), 0, none, .mv (.c (.int .i64 0))⟩]) (.block 0 (.loop n3_0 l3_0))) (.seq (.reg [⟨(some 97), 81, none, .call (.c (.fn 22)) []⟩,
  ⟨(some 98), 0, none, .mv (.t 97)⟩,
  ⟨(some 99), 0, (some (98, true)), .mv (.t 5)⟩,
  ⟨(some 100), 0, (some (98, true)), .mv (.t 0)⟩,
  ⟨(some 101), 0, (some (98, true)), .mv (.t 5)⟩,
  ⟨(some 102), 0, (some (98, true)), .len false (.t 101)⟩,
  ⟨(some 103), 0, (some (98, true)), .slc (.t 100) none (some (.t 102)) none 8⟩,
  ⟨(some 104), 91, (some (98, true)), .call (.c (.fn 23)) [((.t 99), .view 8), ((.t 103), .view 8)]⟩,
  ⟨(some 105), 0, none, .pick (.t 98) (.t 104) (.c (.bool false))⟩,
  ⟨(some 4), 0, none, .mv (.t 105)⟩]) .ret))))
def rs3 : List (Nat × Option Nat × Mode) := [(4, none, .plain)]
theorem chk3 : chkC Try.prog Try.f3.ntmps b3 (Try.f3.body.getD .skip) = true := by decide +kernel
theorem top3 {args : List Arg} {out : Out} (ha : args.length.ble Try.f3.ntmps = true) (h8 : args.length.ble 8 = true) (mss : List (List (Option Nat))) (hb : backOK args out.back)
    (hw : rnC Try.prog b3 (topQ rs3 args mss out) (slotsOf (argsAV argBase args 0) 0) (argsOb argBase args 0)) : CW Try.prog 3 args out :=
  CW.of Try.func3 rs3 mss (by decide +kernel) (by decide +kernel) (by decide +kernel) ha h8 chk3 hb hw

theorem openL_len (l : List Rec) (hto : ∀ r ∈ l, r.to.length ≤ 35184372088832) (c : Int) : (openL l c).length < 9223372036854775808 := by
  unfold openL
  split
  · simp
  · split
    · rename_i r h
      have := hto r (hit_mem h)
      omega
    · simp
theorem w3 (l : List Rec) (cs : List Int) (hl : ∀ r ∈ l, r.ok) (hn : l.length < 9223372036854775808) (hto : ∀ r ∈ l, r.to.length ≤ 35184372088832) (hcs : ∀ c ∈ cs, i32ok c) (hcn : cs.length < 9223372036854775808) (Q : Ex → Slots → LH → Prop) (hQ : ∀ σ H, Slots.get σ 4 = .c (.bool true) → Q .ret σ H) : rnC Try.prog b3 Q [(0, .c (.sl 8 (recs l))), (1, .c (.sl 1 (runes cs)))] [] := by
  unfold b3
  have hl' : ∀ r ∈ l.take 120, r.ok := fun r hr => hl r (List.mem_of_mem_take hr)
  have hto' : ∀ r ∈ l.take 120, r.to.length ≤ 35184372088832 := fun r hr => hto r (List.mem_of_mem_take hr)
  obtain ⟨hn1, hn2⟩ := take_len l 120
  have c14 : CW Try.prog 14 [.cv (.sl 8 (recs l)), .cv (.int .i64 120)] ⟨[.cv (.sl 8 (recs (l.take 120)))], []⟩ := (cw14 l 120 (by omega) hn hto).pubRes rfl
  simp only [go_sem, ↓reduceIte, Nat.reduceEqDiff, Nat.reduceMul, Nat.reduceAdd, Nat.reduceDiv, Nat.reduceSub, Nat.reduceLT, Nat.reduceLeDiff, Int.reduceLE, Int.reduceLT, Int.reduceToNat, Int.reduceEq]
  refine callK_1 _ (fun _ => c14) (by simp only [go_sem, ↓reduceIte, Nat.reduceEqDiff, Nat.reduceMul, Nat.reduceAdd, Nat.reduceDiv, Nat.reduceSub, Nat.reduceLT, Nat.reduceLeDiff, Int.reduceLE, Int.reduceLT, Int.reduceToNat, Int.reduceEq]) rfl rfl ?_
  simp only [go_sem, ↓reduceIte, Nat.reduceEqDiff, Nat.reduceMul, Nat.reduceAdd, Nat.reduceDiv, Nat.reduceSub, Nat.reduceLT, Nat.reduceLeDiff, Int.reduceLE, Int.reduceLT, Int.reduceToNat, Int.reduceEq]
  repeat (refine ⟨by (first | omega | (intro h1 h2; exact ⟨h1, h2⟩) | (intro h1; omega) | (intro h1; exact h1) | trivial), ?_⟩)
  refine loopR.by (α := Nat) (fun i => [(0, .c (.sl 8 (recs l))), (1, .c (.sl 1 (runes cs))), (5, .c (.sl 8 (recs (l.take 120)))), (6, .c (.int .i64 i))]) (fun i => []) (fun i => 60 - i) (fun i => i ≤ 60) 0 (Nat.zero_le _) ?_ ?_
  · intro Y hY
    simp only [go_sem, ↓reduceIte, Nat.reduceEqDiff, Nat.reduceMul, Nat.reduceAdd, Nat.reduceDiv, Nat.reduceSub, Nat.reduceLT, Nat.reduceLeDiff, Int.reduceLE, Int.reduceLT, Int.reduceToNat, Int.reduceEq, n3_0]
    exact hY
  intro i hk Y hY
  unfold l3_0
  rcases Nat.lt_or_ge i cs.length with hlt | hge
  · obtain ⟨c, e, hm, _⟩ := runes_at hlt
    have hX := openL_len (l.take 120) hto' c
    have c15 := cw15 (l.take 120) c hl' (by omega) hto' (hcs c hm)
    have c21 : CW Try.prog 21 [.cv (.sl 8 (recs (l.take 120))), .cv (.int .i32 c)] ⟨[.cv (.sl 1 (runes (openL (l.take 120) c)))], []⟩ := (cw21 (l.take 120) c hl' (by omega) hto' (hcs c hm)).pubRes rfl
    have c16 := cw16 (l.take 120) c hl' (by omega) (hcs c hm)
    have c17 := cw17 (l.take 120) c hl' (by omega) hto' (hcs c hm)
    have c18 := cw18 (l.take 120) c hl' (by omega) (hcs c hm)
    have c19 := cw19 (l.take 120) c hl' (by omega) (hcs c hm)
    generalize openL (l.take 120) c = X at hX c15 c21
    generalize primL (l.take 120) c = P at c16 c17
    generalize classL (l.take 120) c = K at c18 c19
    obtain ⟨p1, p2, p3⟩ := P
    simp only [go_sem, ↓reduceIte, Nat.reduceEqDiff, Nat.reduceMul, Nat.reduceAdd, Nat.reduceDiv, Nat.reduceSub, Nat.reduceLT, Nat.reduceLeDiff, Int.reduceLE, Int.reduceLT, Int.reduceToNat, Int.reduceEq, n3_0, e]
    refine ⟨fun hi => ⟨by omega, ?_⟩, fun h => ?_⟩
    · refine callK_O 1 (runes X) (fun _ => c15) (by simp only [go_sem, ↓reduceIte, Nat.reduceEqDiff, Nat.reduceMul, Nat.reduceAdd, Nat.reduceDiv, Nat.reduceSub, Nat.reduceLT, Nat.reduceLeDiff, Int.reduceLE, Int.reduceLT, Int.reduceToNat, Int.reduceEq]) rfl rfl ?_
      simp only [go_sem, ↓reduceIte, Nat.reduceEqDiff, Nat.reduceMul, Nat.reduceAdd, Nat.reduceDiv, Nat.reduceSub, Nat.reduceLT, Nat.reduceLeDiff, Int.reduceLE, Int.reduceLT, Int.reduceToNat, Int.reduceEq]
      repeat (refine ⟨by (first | omega | (intro h1 h2; exact ⟨h1, h2⟩) | (intro h1; omega) | (intro h1; exact h1) | trivial), ?_⟩)
      refine callK_3 _ _ _ (fun _ => c16) (by simp only [go_sem, ↓reduceIte, Nat.reduceEqDiff, Nat.reduceMul, Nat.reduceAdd, Nat.reduceDiv, Nat.reduceSub, Nat.reduceLT, Nat.reduceLeDiff, Int.reduceLE, Int.reduceLT, Int.reduceToNat, Int.reduceEq]) rfl rfl ?_
      simp only [go_sem, ↓reduceIte, Nat.reduceEqDiff, Nat.reduceMul, Nat.reduceAdd, Nat.reduceDiv, Nat.reduceSub, Nat.reduceLT, Nat.reduceLeDiff, Int.reduceLE, Int.reduceLT, Int.reduceToNat, Int.reduceEq]
      repeat (refine ⟨by (first | omega | (intro h1 h2; exact ⟨h1, h2⟩) | (intro h1; omega) | (intro h1; exact h1) | trivial), ?_⟩)
      rw [slc_self]
      refine callK_3 _ _ _ (fun _ => c17) (by simp only [go_sem, ↓reduceIte, Nat.reduceEqDiff, Nat.reduceMul, Nat.reduceAdd, Nat.reduceDiv, Nat.reduceSub, Nat.reduceLT, Nat.reduceLeDiff, Int.reduceLE, Int.reduceLT, Int.reduceToNat, Int.reduceEq]) rfl rfl ?_
      simp only [go_sem, ↓reduceIte, Nat.reduceEqDiff, Nat.reduceMul, Nat.reduceAdd, Nat.reduceDiv, Nat.reduceSub, Nat.reduceLT, Nat.reduceLeDiff, Int.reduceLE, Int.reduceLT, Int.reduceToNat, Int.reduceEq]
      repeat (refine ⟨by (first | omega | (intro h1 h2; exact ⟨h1, h2⟩) | (intro h1; omega) | (intro h1; exact h1) | trivial), ?_⟩)
      rw [slc_self]
      refine callK_1 _ (fun _ => c18) (by simp only [go_sem, ↓reduceIte, Nat.reduceEqDiff, Nat.reduceMul, Nat.reduceAdd, Nat.reduceDiv, Nat.reduceSub, Nat.reduceLT, Nat.reduceLeDiff, Int.reduceLE, Int.reduceLT, Int.reduceToNat, Int.reduceEq]) rfl rfl ?_
      simp only [go_sem, ↓reduceIte, Nat.reduceEqDiff, Nat.reduceMul, Nat.reduceAdd, Nat.reduceDiv, Nat.reduceSub, Nat.reduceLT, Nat.reduceLeDiff, Int.reduceLE, Int.reduceLT, Int.reduceToNat, Int.reduceEq]
      repeat (refine ⟨by (first | omega | (intro h1 h2; exact ⟨h1, h2⟩) | (intro h1; omega) | (intro h1; exact h1) | trivial), ?_⟩)
      refine ⟨⟨⟨by omega, by omega, by omega, by omega⟩, by rw [slc_self]⟩, ?_⟩
      refine callK_1 _ (fun _ => c19) (by simp only [go_sem, ↓reduceIte, Nat.reduceEqDiff, Nat.reduceMul, Nat.reduceAdd, Nat.reduceDiv, Nat.reduceSub, Nat.reduceLT, Nat.reduceLeDiff, Int.reduceLE, Int.reduceLT, Int.reduceToNat, Int.reduceEq]) rfl rfl ?_
      simp only [go_sem, ↓reduceIte, Nat.reduceEqDiff, Nat.reduceMul, Nat.reduceAdd, Nat.reduceDiv, Nat.reduceSub, Nat.reduceLT, Nat.reduceLeDiff, Int.reduceLE, Int.reduceLT, Int.reduceToNat, Int.reduceEq]
      repeat (refine ⟨by (first | omega | (intro h1 h2; exact ⟨h1, h2⟩) | (intro h1; omega) | (intro h1; exact h1) | trivial), ?_⟩)
      rw [slc_self]
      refine callK_1 _ (fun _ => c21) (by simp only [go_sem, ↓reduceIte, Nat.reduceEqDiff, Nat.reduceMul, Nat.reduceAdd, Nat.reduceDiv, Nat.reduceSub, Nat.reduceLT, Nat.reduceLeDiff, Int.reduceLE, Int.reduceLT, Int.reduceToNat, Int.reduceEq]) rfl rfl ?_
      simp only [go_sem, ↓reduceIte, Nat.reduceEqDiff, Nat.reduceMul, Nat.reduceAdd, Nat.reduceDiv, Nat.reduceSub, Nat.reduceLT, Nat.reduceLeDiff, Int.reduceLE, Int.reduceLT, Int.reduceToNat, Int.reduceEq]
      repeat (refine ⟨by (first | omega | (intro h1 h2; exact ⟨h1, h2⟩) | (intro h1; omega) | (intro h1; exact h1) | trivial), ?_⟩)
      have ht : List.take X.length (runes X) = runes X := List.take_of_length_le (by rw [runes_len]; omega)
      rw [ht]
      refine callK_V _ (fun _ => cw20 X X hX hX) (by simp only [go_sem, ↓reduceIte, Nat.reduceEqDiff, Nat.reduceMul, Nat.reduceAdd, Nat.reduceDiv, Nat.reduceSub, Nat.reduceLT, Nat.reduceLeDiff, Int.reduceLE, Int.reduceLT, Int.reduceToNat, Int.reduceEq]) rfl (by simp only [go_sem, ↓reduceIte, Nat.reduceEqDiff, Nat.reduceMul, Nat.reduceAdd, Nat.reduceDiv, Nat.reduceSub, Nat.reduceLT, Nat.reduceLeDiff, Int.reduceLE, Int.reduceLT, Int.reduceToNat, Int.reduceEq]) rfl rfl ?_
      simp only [go_sem, ↓reduceIte, Nat.reduceEqDiff, Nat.reduceMul, Nat.reduceAdd, Nat.reduceDiv, Nat.reduceSub, Nat.reduceLT, Nat.reduceLeDiff, Int.reduceLE, Int.reduceLT, Int.reduceToNat, Int.reduceEq]
      repeat (refine ⟨by (first | omega | (intro h1 h2; exact ⟨h1, h2⟩) | (intro h1; omega) | (intro h1; exact h1) | trivial), ?_⟩)
      refine loopR.by (α := Nat × List CV) (fun p => [(0, .c (.sl 8 (recs l))), (1, .c (.sl 1 (runes cs))), (5, .c (.sl 8 (recs (l.take 120)))), (6, .c (.int .i64 i)), (8, .osl 1000008 0 X.length), (15, .c (.int .i64 p.1))]) (fun p => [(1000008, .row 1 p.2)]) (fun p => X.length - p.1) (fun p => p.1 ≤ X.length ∧ p.2.length = X.length) (0, runes X) ⟨Nat.zero_le _, runes_len X⟩ ?_ ?_
      · intro Z hZ
        simp only [go_sem, ↓reduceIte, Nat.reduceEqDiff, Nat.reduceMul, Nat.reduceAdd, Nat.reduceDiv, Nat.reduceSub, Nat.reduceLT, Nat.reduceLeDiff, Int.reduceLE, Int.reduceLT, Int.reduceToNat, Int.reduceEq, n3_1]
        first | exact hZ | exact ⟨by simp, hZ⟩
      intro p hk2 Z hZ
      obtain ⟨k, xs⟩ := p
      obtain ⟨hk2, hxs⟩ := hk2
      simp only at hk2 hxs
      unfold l3_1
      simp only [go_sem, ↓reduceIte, Nat.reduceEqDiff, Nat.reduceMul, Nat.reduceAdd, Nat.reduceDiv, Nat.reduceSub, Nat.reduceLT, Nat.reduceLeDiff, Int.reduceLE, Int.reduceLT, Int.reduceToNat, Int.reduceEq, n3_1]
      refine ⟨fun h => ?_, fun _ => ?_⟩
      · generalize hrow : xs.set k _ = ys
        have hys : ys.length = X.length := by rw [← hrow, List.length_set, hxs]
        rw [hys, succ64 (show k < X.length by omega) (by omega)]
        exact ⟨by omega, rfl, hZ (k + 1, ys) ⟨by simp only; omega, hys⟩ (by simp only; omega)⟩
      · rw [succ64 (show i < 60 by omega) (by omega)]
        exact hY (i + 1) (by omega) (by omega)
    · refine callK_1 _ (fun _ => cw22) (by simp only [go_sem, ↓reduceIte, Nat.reduceEqDiff, Nat.reduceMul, Nat.reduceAdd, Nat.reduceDiv, Nat.reduceSub, Nat.reduceLT, Nat.reduceLeDiff, Int.reduceLE, Int.reduceLT, Int.reduceToNat, Int.reduceEq]) rfl rfl ?_
      simp only [go_sem, ↓reduceIte, Nat.reduceEqDiff, Nat.reduceMul, Nat.reduceAdd, Nat.reduceDiv, Nat.reduceSub, Nat.reduceLT, Nat.reduceLeDiff, Int.reduceLE, Int.reduceLT, Int.reduceToNat, Int.reduceEq]
      repeat (refine ⟨by (first | omega | (intro h1 h2; exact ⟨h1, h2⟩) | (intro h1; omega) | (intro h1; exact h1) | trivial), ?_⟩)
      rw [slc_self]
      refine callK_1 _ (fun _ => cw23 (l.take 120) (l.take 120) (by omega) (by omega) hto' hto') (by simp only [go_sem, ↓reduceIte, Nat.reduceEqDiff, Nat.reduceMul, Nat.reduceAdd, Nat.reduceDiv, Nat.reduceSub, Nat.reduceLT, Nat.reduceLeDiff, Int.reduceLE, Int.reduceLT, Int.reduceToNat, Int.reduceEq]) rfl rfl ?_
      simp only [go_sem, ↓reduceIte, Nat.reduceEqDiff, Nat.reduceMul, Nat.reduceAdd, Nat.reduceDiv, Nat.reduceSub, Nat.reduceLT, Nat.reduceLeDiff, Int.reduceLE, Int.reduceLT, Int.reduceToNat, Int.reduceEq]
      repeat (refine ⟨by (first | omega | (intro h1 h2; exact ⟨h1, h2⟩) | (intro h1; omega) | (intro h1; exact h1) | trivial), ?_⟩)
      rw [sameL_self]
      exact hQ _ _ rfl
  · have e : (runes cs).getD i .undef = .undef := by
      rw [List.getD_eq_getElem?_getD, List.getElem?_eq_none (by rw [runes_len]; omega)]; rfl
    simp only [go_sem, ↓reduceIte, Nat.reduceEqDiff, Nat.reduceMul, Nat.reduceAdd, Nat.reduceDiv, Nat.reduceSub, Nat.reduceLT, Nat.reduceLeDiff, Int.reduceLE, Int.reduceLT, Int.reduceToNat, Int.reduceEq, n3_0, e]
    refine ⟨fun hi => by omega, fun h => ?_⟩
    refine callK_1 _ (fun _ => cw22) (by simp only [go_sem, ↓reduceIte, Nat.reduceEqDiff, Nat.reduceMul, Nat.reduceAdd, Nat.reduceDiv, Nat.reduceSub, Nat.reduceLT, Nat.reduceLeDiff, Int.reduceLE, Int.reduceLT, Int.reduceToNat, Int.reduceEq]) rfl rfl ?_
    simp only [go_sem, ↓reduceIte, Nat.reduceEqDiff, Nat.reduceMul, Nat.reduceAdd, Nat.reduceDiv, Nat.reduceSub, Nat.reduceLT, Nat.reduceLeDiff, Int.reduceLE, Int.reduceLT, Int.reduceToNat, Int.reduceEq]
    repeat (refine ⟨by (first | omega | (intro h1 h2; exact ⟨h1, h2⟩) | (intro h1; omega) | (intro h1; exact h1) | trivial), ?_⟩)
    rw [slc_self]
    refine callK_1 _ (fun _ => cw23 (l.take 120) (l.take 120) (by omega) (by omega) hto' hto') (by simp only [go_sem, ↓reduceIte, Nat.reduceEqDiff, Nat.reduceMul, Nat.reduceAdd, Nat.reduceDiv, Nat.reduceSub, Nat.reduceLT, Nat.reduceLeDiff, Int.reduceLE, Int.reduceLT, Int.reduceToNat, Int.reduceEq]) rfl rfl ?_
    simp only [go_sem, ↓reduceIte, Nat.reduceEqDiff, Nat.reduceMul, Nat.reduceAdd, Nat.reduceDiv, Nat.reduceSub, Nat.reduceLT, Nat.reduceLeDiff, Int.reduceLE, Int.reduceLT, Int.reduceToNat, Int.reduceEq]
    repeat (refine ⟨by (first | omega | (intro h1 h2; exact ⟨h1, h2⟩) | (intro h1; omega) | (intro h1; exact h1) | trivial), ?_⟩)
    rw [sameL_self]
    exact hQ _ _ rfl
theorem cw3 (l : List Rec) (cs : List Int) (hl : ∀ r ∈ l, r.ok) (hn : l.length < 9223372036854775808) (hto : ∀ r ∈ l, r.to.length ≤ 35184372088832) (hcs : ∀ c ∈ cs, i32ok c) (hcn : cs.length < 9223372036854775808) : CW Try.prog 3 [.cv (.sl 8 (recs l)), .cv (.sl 1 (runes cs))] ⟨[.cv (.bool true)], []⟩ :=
  top3 rfl rfl [] trivial (w3 l cs hl hn hto hcs hcn _ fun σ H h => ret1 rfl h)
end Go.Proofs.Ytcpdnpaedkcebaa.V
