/- Contracts: the law CanonLeaves. -/
import Derived.Test.YtcpdnpaedkcebaaXs
import Derived.Test.YtcpdnpaedkcebaaPf
namespace Go.Proofs.Ytcpdnpaedkcebaa.V
open Go Go.RowKit
set_option linter.unusedVariables false
set_option linter.unusedSimpArgs false
set_option maxRecDepth 100000
/- endonym/endonymlaw7.CanonLeaves -/
def l6_1 : IC := (.seq (.seq (.reg [⟨(some 54), 0, none, .mv (.t 11)⟩,
  ⟨(some 55), 0, none, .mv (.t 9)⟩,
  ⟨(some 56), 0, none, .len false (.t 55)⟩,
  ⟨(some 57), 0, none, .bin .lss (.t 54) (.t 56)⟩]) (.cond (.t 57) .skip (.exit 2))) (.seq (.block 3 (.seq (.reg [⟨(some 60), 0, none, .mv (.t 5)⟩,
  ⟨(some 61), 0, none, .mv (.t 9)⟩,
  ⟨(some 62), 0, none, .mv (.t 11)⟩,
  ⟨(some 63), 0, none, .ia (.t 61) (.t 62) 1⟩,
  ⟨(some 64), 0, none, .ld (.t 63) none⟩,
  ⟨(some 65), 41, none, .call (.c (.fn 18)) [((.t 60), .view 8), ((.t 64), .plain)]⟩,
  ⟨(some 12), 0, none, .mv (.t 65)⟩]) (.seq (.reg [⟨(some 66), 0, none, .mv (.t 5)⟩,
  ⟨(some 67), 0, none, .mv (.t 9)⟩,
  ⟨(some 68), 0, none, .mv (.t 11)⟩,
  ⟨(some 69), 0, none, .ia (.t 67) (.t 68) 1⟩,
  ⟨(some 70), 0, none, .ld (.t 69) none⟩,
  ⟨(some 71), 51, none, .call (.c (.fn 15)) [((.t 66), .view 8), ((.t 70), .plain)]⟩,
  ⟨(some 72), 0, none, .len false (.t 71)⟩,
  ⟨(some 73), 0, none, .bin .gtr (.t 72) (.c (.int .i64 0))⟩,
  ⟨(some 74), 0, none, .mv (.t 73)⟩,
  ⟨(some 75), 0, (some (74, false)), .mv (.t 11)⟩,
  ⟨(some 76), 0, (some (74, false)), .bin .gtr (.t 75) (.c (.int .i64 0))⟩,
  ⟨(some 77), 0, (some (74, false)), .mv (.t 76)⟩,
  ⟨(some 78), 0, (some (77, true)), .mv (.t 12)⟩,
  ⟨(some 79), 0, (some (77, true)), .bin .neq (.t 78) (.c (.int .i64 0))⟩,
  ⟨(some 80), 0, (some (74, false)), .pick (.t 77) (.t 79) (.c (.bool false))⟩,
  ⟨(some 81), 0, (some (74, false)), .mv (.t 80)⟩,
  ⟨(some 82), 0, (some (81, true)), .mv (.t 5)⟩,
  ⟨(some 83), 0, (some (81, true)), .mv (.t 9)⟩,
  ⟨(some 84), 0, (some (81, true)), .mv (.t 11)⟩,
  ⟨(some 85), 0, (some (81, true)), .bin .sub (.t 84) (.c (.int .i64 1))⟩,
  ⟨(some 86), 0, (some (81, true)), .ia (.t 83) (.t 85) 1⟩,
  ⟨(some 87), 0, (some (81, true)), .ld (.t 86) none⟩,
  ⟨(some 88), 61, (some (81, true)), .call (.c (.fn 18)) [((.t 82), .view 8), ((.t 87), .plain)]⟩,
  ⟨(some 89), 0, (some (81, true)), .mv (.t 12)⟩,
  ⟨(some 90), 0, (some (81, true)), .bin .gtr (.t 88) (.t 89)⟩,
  ⟨(some 91), 0, (some (74, false)), .pick (.t 81) (.t 90) (.c (.bool false))⟩,
  ⟨(some 92), 0, none, .pick (.t 74) (.c (.bool true)) (.t 91)⟩]) (.cond (.t 92) (.seq (.reg [⟨(some 4), 0, none, .mv (.c (.bool false))⟩]) .ret) .skip)))) (.reg [⟨(some 58), 0, none, .mv (.t 11)⟩,
  ⟨(some 59), 0, none, .bin .add (.t 58) (.c (.int .i64 1))⟩,
  ⟨(some 11), 0, none, .mv (.t 59)⟩])))
def n6_1 : Norm := ⟨[(1, .plain), (5, .plain), (8, .plain), (9, .own 1 1000009), (11, .plain)], []⟩
def l6_0 : IC := (.seq (.seq (.reg [⟨(some 23), 0, none, .mv (.t 8)⟩,
  ⟨(some 24), 0, none, .mv (.t 1)⟩,
  ⟨(some 25), 0, none, .len false (.t 24)⟩,
  ⟨(some 26), 0, none, .bin .lss (.t 23) (.t 25)⟩,
  ⟨(some 27), 0, none, .mv (.t 26)⟩,
  ⟨(some 28), 0, (some (27, true)), .mv (.t 8)⟩,
  ⟨(some 29), 0, (some (27, true)), .bin .lss (.t 28) (.c (.int .i64 40))⟩,
  ⟨(some 30), 0, none, .pick (.t 27) (.t 29) (.c (.bool false))⟩]) (.cond (.t 30) .skip (.exit 0))) (.seq (.block 1 (.seq (.reg [⟨(some 34), 0, none, .mv (.t 5)⟩,
  ⟨(some 35), 0, none, .mv (.t 1)⟩,
  ⟨(some 36), 0, none, .mv (.t 8)⟩,
  ⟨(some 37), 0, none, .ia (.t 35) (.t 36) 1⟩,
  ⟨(some 38), 0, none, .ld (.t 37) none⟩,
  ⟨(some 39), 31, none, .call (.c (.fn 24)) [((.t 34), .view 8), ((.t 38), .plain)]⟩,
  ⟨(some 33), 0, none, .mv (.t 39)⟩,
  ⟨(some 40), 0, none, .ext (.t 33) 0⟩,
  ⟨(some 41), 0, none, .ext (.t 33) 1⟩,
  ⟨(some 9), 0, none, .mv (.t 40)⟩,
  ⟨(some 10), 0, none, .mv (.t 41)⟩]) (.seq (.seq (.reg [⟨(some 42), 0, none, .mv (.t 10)⟩,
  ⟨(some 43), 0, none, .bin .neq (.t 42) (.c (.int .i64 0))⟩,
  ⟨(some 44), 0, none, .mv (.t 43)⟩,
  ⟨(some 45), 0, (some (44, false)), .mv (.t 9)⟩,
  ⟨(some 46), 0, (some (44, false)), .len false (.t 45)⟩,
  ⟨(some 47), 0, (some (44, false)), .bin .eql (.t 46) (.c (.int .i64 0))⟩,
  ⟨(some 48), 0, none, .pick (.t 44) (.c (.bool true)) (.t 47)⟩,
  ⟨(some 49), 0, none, .mv (.t 48)⟩,
  ⟨(some 50), 0, (some (49, false)), .mv (.t 9)⟩,
  ⟨(some 51), 0, (some (49, false)), .len false (.t 50)⟩,
  ⟨(some 52), 0, (some (49, false)), .bin .gtr (.t 51) (.c (.int .i64 32))⟩,
  ⟨(some 53), 0, none, .pick (.t 49) (.c (.bool true)) (.t 52)⟩]) (.cond (.t 53) (.seq (.reg [⟨(some 4), 0, none, .mv (.c (.bool false))⟩]) .ret) .skip)) (.seq (.reg [⟨(some 11), 0, none, .mv (.c (.int .i64 0))⟩]) (.block 2 (.loop n6_1 l6_1)))))) (.reg [⟨(some 31), 0, none, .mv (.t 8)⟩,
  ⟨(some 32), 0, none, .bin .add (.t 31) (.c (.int .i64 1))⟩,
  ⟨(some 8), 0, none, .mv (.t 32)⟩])))
def n6_0 : Norm := ⟨[(1, .plain), (5, .plain), (8, .plain)], []⟩
def b6 : IC := (.seq (.reg [⟨(some 4), 0, none, .mv (.c (.bool false))⟩]) (.seq (.reg [⟨(some 13), 0, none, .mv (.t 0)⟩,
  ⟨(some 14), 1, none, .call (.c (.fn 14)) [((.t 13), .view 8), ((.c (.int .i64 120)), .plain)]⟩,
  ⟨(some 5), 0, none, .mv (.t 14)⟩]) (.seq (.reg [⟨(some 16), 0, none, .mv (.t 5)⟩,
  ⟨(some 17), 11, none, .call (.c (.fn 26)) [((.t 16), .view 8)]⟩,
  ⟨(some 15), 0, none, .mv (.t 17)⟩,
  ⟨(some 18), 0, none, .ext (.t 15) 0⟩,
  ⟨(some 19), 0, none, .ext (.t 15) 1⟩,
  ⟨(some 6), 0, none, .mv (.t 18)⟩,
  ⟨(some 7), 0, none, .mv (.t 19)⟩]) (.seq (.seq (.reg [⟨(some 20), 0, none, .mv (.t 7)⟩,
  ⟨(some 21), 0, none, .bin .neq (.t 20) (.c (.int .i64 0))⟩]) (.cond (.t 21) (.seq (.reg [⟨(some 22), 21, none, .call (.c (.fn 22)) []⟩,
  ⟨(some 4), 0, none, .mv (.t 22)⟩]) .ret) .skip)) (.seq (.seq (.reg [⟨(some 8), 0, none, .mv (.c (.int .i64 0))⟩]) (.block 0 (.loop n6_0 l6_0))) (.seq (.reg [⟨(some 93), 71, none, .call (.c (.fn 22)) []⟩,
  ⟨(some 4), 0, none, .mv (.t 93)⟩]) .ret))))))
def rs6 : List (Nat × Option Nat × Mode) := [(4, none, .plain)]
theorem chk6 : chkC Try.prog Try.f6.ntmps b6 (Try.f6.body.getD .skip) = true := by decide +kernel
theorem top6 {args : List Arg} {out : Out} (ha : args.length.ble Try.f6.ntmps = true) (h8 : args.length.ble 8 = true) (mss : List (List (Option Nat))) (hb : backOK args out.back)
    (hw : rnC Try.prog b6 (topQ rs6 args mss out) (slotsOf (argsAV argBase args 0) 0) (argsOb argBase args 0)) : CW Try.prog 6 args out :=
  CW.of Try.func6 rs6 mss (by decide +kernel) (by decide +kernel) (by decide +kernel) ha h8 chk6 hb hw

theorem openL_len' (l : List Rec) (hto : ∀ r ∈ l, r.to.length ≤ 35184372088832) (c : Int) : (openL l c).length < 9223372036854775808 := by
  unfold openL
  split
  · simp
  · split
    · rename_i r h
      have := hto r (hit_mem h)
      omega
    · simp
theorem runes_getD {l : List Int} {k : Nat} (h : k < l.length) : (runes l).getD k .undef = .int .i32 (l.getD k 0) := by
  simp [runes, List.getD_eq_getElem?_getD, h]
theorem w6 (l : List Rec) (cs : List Int) (hl : ∀ r ∈ l, r.ok) (hn : l.length < 9223372036854775808) (hto : ∀ r ∈ l, r.to.length ≤ 35184372088832) (hcs : ∀ c ∈ cs, i32ok c) (hcn : cs.length < 9223372036854775808) (Q : Ex → Slots → LH → Prop) (hQ : ∀ σ H, Slots.get σ 4 = .c (.bool true) → Q .ret σ H) : rnC Try.prog b6 Q [(0, .c (.sl 8 (recs l))), (1, .c (.sl 1 (runes cs)))] [] := by
  unfold b6
  have hl' : ∀ r ∈ l.take 120, r.ok := fun r hr => hl r (List.mem_of_mem_take hr)
  have hto' : ∀ r ∈ l.take 120, r.to.length ≤ 35184372088832 := fun r hr => hto r (List.mem_of_mem_take hr)
  obtain ⟨hn1, hn2⟩ := take_len l 120
  have c14 : CW Try.prog 14 [.cv (.sl 8 (recs l)), .cv (.int .i64 120)] ⟨[.cv (.sl 8 (recs (l.take 120)))], []⟩ := (cw14 l 120 (by omega) hn hto).pubRes rfl
  simp only [go_sem, ↓reduceIte, Nat.reduceEqDiff, Nat.reduceMul, Nat.reduceAdd, Nat.reduceDiv, Nat.reduceSub, Nat.reduceLT, Nat.reduceLeDiff, Int.reduceLE, Int.reduceLT, Int.reduceToNat, Int.reduceEq]
  refine callK_1 _ (fun _ => c14) (by simp only [go_sem, ↓reduceIte, Nat.reduceEqDiff, Nat.reduceMul, Nat.reduceAdd, Nat.reduceDiv, Nat.reduceSub, Nat.reduceLT, Nat.reduceLeDiff, Int.reduceLE, Int.reduceLT, Int.reduceToNat, Int.reduceEq]) rfl rfl ?_
  simp only [go_sem, ↓reduceIte, Nat.reduceEqDiff, Nat.reduceMul, Nat.reduceAdd, Nat.reduceDiv, Nat.reduceSub, Nat.reduceLT, Nat.reduceLeDiff, Int.reduceLE, Int.reduceLT, Int.reduceToNat, Int.reduceEq]
  repeat (refine ⟨by (first | omega | (intro h1 h2; exact ⟨h1, h2⟩) | (intro h1; omega) | (intro h1; exact h1) | trivial), ?_⟩)
  refine callK_2 _ _ (fun _ => cw26 (l.take 120) hl' hto') (by simp only [go_sem, ↓reduceIte, Nat.reduceEqDiff, Nat.reduceMul, Nat.reduceAdd, Nat.reduceDiv, Nat.reduceSub, Nat.reduceLT, Nat.reduceLeDiff, Int.reduceLE, Int.reduceLT, Int.reduceToNat, Int.reduceEq]) rfl rfl ?_
  simp only [go_sem, ↓reduceIte, Nat.reduceEqDiff, Nat.reduceMul, Nat.reduceAdd, Nat.reduceDiv, Nat.reduceSub, Nat.reduceLT, Nat.reduceLeDiff, Int.reduceLE, Int.reduceLT, Int.reduceToNat, Int.reduceEq]
  repeat (refine ⟨by (first | omega | (intro h1 h2; exact ⟨h1, h2⟩) | (intro h1; omega) | (intro h1; exact h1) | trivial), ?_⟩)
  refine ⟨fun hne => ?_, fun he => ?_⟩
  · refine callK_1 _ (fun _ => cw22) (by simp only [go_sem, ↓reduceIte, Nat.reduceEqDiff, Nat.reduceMul, Nat.reduceAdd, Nat.reduceDiv, Nat.reduceSub, Nat.reduceLT, Nat.reduceLeDiff, Int.reduceLE, Int.reduceLT, Int.reduceToNat, Int.reduceEq]) rfl rfl ?_
    simp only [go_sem, ↓reduceIte, Nat.reduceEqDiff, Nat.reduceMul, Nat.reduceAdd, Nat.reduceDiv, Nat.reduceSub, Nat.reduceLT, Nat.reduceLeDiff, Int.reduceLE, Int.reduceLT, Int.reduceToNat, Int.reduceEq]
    repeat (refine ⟨by (first | omega | (intro h1 h2; exact ⟨h1, h2⟩) | (intro h1; omega) | (intro h1; exact h1) | trivial), ?_⟩)
    exact hQ _ _ rfl
  have hlv := (good_of hl' he).leaves
  refine loopR.by (α := Nat) (fun i => [(1, .c (.sl 1 (runes cs))), (5, .c (.sl 8 (recs (l.take 120)))), (8, .c (.int .i64 i))]) (fun i => []) (fun i => 60 - i) (fun i => i ≤ 40) 0 (Nat.zero_le _) ?_ ?_
  · intro Y hY
    simp only [go_sem, ↓reduceIte, Nat.reduceEqDiff, Nat.reduceMul, Nat.reduceAdd, Nat.reduceDiv, Nat.reduceSub, Nat.reduceLT, Nat.reduceLeDiff, Int.reduceLE, Int.reduceLT, Int.reduceToNat, Int.reduceEq, n6_0]
    exact hY
  intro i hk Y hY
  unfold l6_0
  rcases Nat.lt_or_ge i cs.length with hlt | hge
  · obtain ⟨c, e, hm, _⟩ := runes_at hlt
    obtain ⟨X, hX, hne, hX32, hok, hop, hfa⟩ := hlv c (hcs c hm)
    have c24 := cw24 (l.take 120) hl' (by omega) hto' c (hcs c hm)
    rw [hX] at c24
    have c24' : CW Try.prog 24 [.cv (.sl 8 (recs (l.take 120))), .cv (.int .i32 c)] ⟨[.own 1 (runes X), .cv (.int .i64 0)], []⟩ := c24
    simp only [go_sem, ↓reduceIte, Nat.reduceEqDiff, Nat.reduceMul, Nat.reduceAdd, Nat.reduceDiv, Nat.reduceSub, Nat.reduceLT, Nat.reduceLeDiff, Int.reduceLE, Int.reduceLT, Int.reduceToNat, Int.reduceEq, n6_0, e]
    refine ⟨fun hi => ⟨by omega, ?_⟩, fun h => ?_⟩
    · refine callK_i ⟨[.own 1 (runes X), .cv (.int .i64 0)], []⟩ (fun _ => c24') ⟨by simp only [go_sem, ↓reduceIte, Nat.reduceEqDiff, Nat.reduceMul, Nat.reduceAdd, Nat.reduceDiv, Nat.reduceSub, Nat.reduceLT, Nat.reduceLeDiff, Int.reduceLE, Int.reduceLT, Int.reduceToNat, Int.reduceEq], .inl rfl, ⟨by simp only [go_sem, ↓reduceIte, Nat.reduceEqDiff, Nat.reduceMul, Nat.reduceAdd, Nat.reduceDiv, Nat.reduceSub, Nat.reduceLT, Nat.reduceLeDiff, Int.reduceLE, Int.reduceLT, Int.reduceToNat, Int.reduceEq], by simp, by simp, by simp⟩, ?_⟩
      simp only [go_sem, ↓reduceIte, Nat.reduceEqDiff, Nat.reduceMul, Nat.reduceAdd, Nat.reduceDiv, Nat.reduceSub, Nat.reduceLT, Nat.reduceLeDiff, Int.reduceLE, Int.reduceLT, Int.reduceToNat, Int.reduceEq, e]
      refine ⟨fun h => absurd h (by simp only [hne, false_or]; omega), fun _ => ?_⟩
      refine loopR.by (α := Nat) (fun k => [(1, .c (.sl 1 (runes cs))), (5, .c (.sl 8 (recs (l.take 120)))), (8, .c (.int .i64 i)), (9, .osl 1000009 0 X.length), (11, .c (.int .i64 k))]) (fun k => [(1000009, .row 1 (runes X))]) (fun k => X.length - k) (fun k => k ≤ X.length) 0 (Nat.zero_le _) ?_ ?_
      · intro Z hZ
        simp only [go_sem, ↓reduceIte, Nat.reduceEqDiff, Nat.reduceMul, Nat.reduceAdd, Nat.reduceDiv, Nat.reduceSub, Nat.reduceLT, Nat.reduceLeDiff, Int.reduceLE, Int.reduceLT, Int.reduceToNat, Int.reduceEq, n6_1]
        first | exact hZ | exact ⟨by simp, hZ⟩
      intro k hk2 Z hZ
      unfold l6_1
      rcases Nat.lt_or_ge k X.length with hkl | hkg
      · obtain ⟨t, et, htm, htg⟩ := runes_at hkl
        have ht0 := hop t htm
        have hti := hok t htm
        have c18 := cw18 (l.take 120) t hl' (by omega) hti
        have c15 := cw15 (l.take 120) t hl' (by omega) hto' hti
        rw [ht0] at c15
        simp only [go_sem, ↓reduceIte, Nat.reduceEqDiff, Nat.reduceMul, Nat.reduceAdd, Nat.reduceDiv, Nat.reduceSub, Nat.reduceLT, Nat.reduceLeDiff, Int.reduceLE, Int.reduceLT, Int.reduceToNat, Int.reduceEq, n6_1, et]
        refine ⟨fun h => ?_, fun h => by omega⟩
        refine ⟨⟨by omega, by omega⟩, ?_⟩
        refine callK_1 _ (fun _ => c18) (by simp only [go_sem, ↓reduceIte, Nat.reduceEqDiff, Nat.reduceMul, Nat.reduceAdd, Nat.reduceDiv, Nat.reduceSub, Nat.reduceLT, Nat.reduceLeDiff, Int.reduceLE, Int.reduceLT, Int.reduceToNat, Int.reduceEq]) rfl rfl ?_
        simp only [go_sem, ↓reduceIte, Nat.reduceEqDiff, Nat.reduceMul, Nat.reduceAdd, Nat.reduceDiv, Nat.reduceSub, Nat.reduceLT, Nat.reduceLeDiff, Int.reduceLE, Int.reduceLT, Int.reduceToNat, Int.reduceEq, et]
        repeat (refine ⟨by (first | omega | (intro h1 h2; exact ⟨h1, h2⟩) | (intro h1; omega) | (intro h1; exact h1) | trivial), ?_⟩)
        refine callK_O 1 (runes []) (fun _ => c15) (by simp only [go_sem, ↓reduceIte, Nat.reduceEqDiff, Nat.reduceMul, Nat.reduceAdd, Nat.reduceDiv, Nat.reduceSub, Nat.reduceLT, Nat.reduceLeDiff, Int.reduceLE, Int.reduceLT, Int.reduceToNat, Int.reduceEq]) rfl rfl ?_
        have hk1 : 0 < k → IntKind.i64.wrap ((k : Int) - 1) = ((k - 1 : Nat) : Int) := fun h => by rw [wrap_i64]; omega
        obtain ⟨t', et', htm', _⟩ := runes_at (l := X) (k := (IntKind.i64.wrap ((k : Int) - 1)).toNat) (by
          rcases Nat.eq_zero_or_pos k with h0 | h0
          · subst h0; rw [wrap_i64]; simp; omega
          · rw [hk1 h0]; omega)
        have c18' := cw18 (l.take 120) t' hl' (by omega) (hok t' htm')
        simp only [go_sem, ↓reduceIte, Nat.reduceEqDiff, Nat.reduceMul, Nat.reduceAdd, Nat.reduceDiv, Nat.reduceSub, Nat.reduceLT, Nat.reduceLeDiff, Int.reduceLE, Int.reduceLT, Int.reduceToNat, Int.reduceEq, et, et']
        refine ⟨fun _ h => ⟨by omega, h⟩, fun h => ?_, ?_⟩
        · rw [hk1 (by omega)]; omega
        refine callK_1 _ (fun _ => c18') (by simp only [go_sem, ↓reduceIte, Nat.reduceEqDiff, Nat.reduceMul, Nat.reduceAdd, Nat.reduceDiv, Nat.reduceSub, Nat.reduceLT, Nat.reduceLeDiff, Int.reduceLE, Int.reduceLT, Int.reduceToNat, Int.reduceEq]) rfl rfl ?_
        simp only [go_sem, ↓reduceIte, Nat.reduceEqDiff, Nat.reduceMul, Nat.reduceAdd, Nat.reduceDiv, Nat.reduceSub, Nat.reduceLT, Nat.reduceLeDiff, Int.reduceLE, Int.reduceLT, Int.reduceToNat, Int.reduceEq, et, et']
        repeat (refine ⟨by (first | omega | (intro h1 h2; exact ⟨h1, h2⟩) | (intro h1; omega) | (intro h1; exact h1) | trivial), ?_⟩)
        refine ⟨fun h => ?_, fun _ => ?_⟩
        · exfalso
          have hj : 0 < k ∧ classL (l.take 120) t ≠ 0 ∧ classL (l.take 120) t < classL (l.take 120) t' := by
            rcases h with h | h
            · omega
            · exact ⟨by omega, h.1.2, h.2⟩
          have e1 : X.getD k 0 = t := by
            have := runes_getD hkl
            rw [et] at this
            injection this with _ h; exact h.symm
          have e2 : X.getD (k - 1) 0 = t' := by
            have := runes_getD (l := X) (k := k - 1) (by omega)
            rw [hk1 hj.1] at et'
            rw [show (((k - 1 : Nat) : Int)).toNat = k - 1 from rfl] at et'
            rw [et'] at this
            injection this with _ h; exact h.symm
          have e3 : k - 1 + 1 = k := by omega
          have := falls_at hfa (k - 1) (by omega)
          rw [e3, e1, e2] at this
          exact this hj.2.1 hj.2.2
        · rw [succ64 hkl (by omega)]
          first | exact hZ (k + 1) (by omega) (by omega) | exact ⟨by simp, hZ (k + 1) (by omega) (by omega)⟩
      · have e2 : (runes X).getD k .undef = .undef := by
          rw [List.getD_eq_getElem?_getD, List.getElem?_eq_none (by rw [runes_len]; omega)]; rfl
        simp only [go_sem, ↓reduceIte, Nat.reduceEqDiff, Nat.reduceMul, Nat.reduceAdd, Nat.reduceDiv, Nat.reduceSub, Nat.reduceLT, Nat.reduceLeDiff, Int.reduceLE, Int.reduceLT, Int.reduceToNat, Int.reduceEq, n6_1, e2]
        refine ⟨fun h => by omega, fun h => ?_⟩
        rw [succ64 (show i < 60 by omega) (by omega)]
        exact hY (i + 1) (by omega) (by omega)
    · refine callK_1 _ (fun _ => cw22) (by simp only [go_sem, ↓reduceIte, Nat.reduceEqDiff, Nat.reduceMul, Nat.reduceAdd, Nat.reduceDiv, Nat.reduceSub, Nat.reduceLT, Nat.reduceLeDiff, Int.reduceLE, Int.reduceLT, Int.reduceToNat, Int.reduceEq]) rfl rfl ?_
      simp only [go_sem, ↓reduceIte, Nat.reduceEqDiff, Nat.reduceMul, Nat.reduceAdd, Nat.reduceDiv, Nat.reduceSub, Nat.reduceLT, Nat.reduceLeDiff, Int.reduceLE, Int.reduceLT, Int.reduceToNat, Int.reduceEq]
      repeat (refine ⟨by (first | omega | (intro h1 h2; exact ⟨h1, h2⟩) | (intro h1; omega) | (intro h1; exact h1) | trivial), ?_⟩)
      exact hQ _ _ rfl
  · have e : (runes cs).getD i .undef = .undef := by
      rw [List.getD_eq_getElem?_getD, List.getElem?_eq_none (by rw [runes_len]; omega)]; rfl
    simp only [go_sem, ↓reduceIte, Nat.reduceEqDiff, Nat.reduceMul, Nat.reduceAdd, Nat.reduceDiv, Nat.reduceSub, Nat.reduceLT, Nat.reduceLeDiff, Int.reduceLE, Int.reduceLT, Int.reduceToNat, Int.reduceEq, n6_0, e]
    refine ⟨fun hi => by omega, fun h => ?_⟩
    refine callK_1 _ (fun _ => cw22) (by simp only [go_sem, ↓reduceIte, Nat.reduceEqDiff, Nat.reduceMul, Nat.reduceAdd, Nat.reduceDiv, Nat.reduceSub, Nat.reduceLT, Nat.reduceLeDiff, Int.reduceLE, Int.reduceLT, Int.reduceToNat, Int.reduceEq]) rfl rfl ?_
    simp only [go_sem, ↓reduceIte, Nat.reduceEqDiff, Nat.reduceMul, Nat.reduceAdd, Nat.reduceDiv, Nat.reduceSub, Nat.reduceLT, Nat.reduceLeDiff, Int.reduceLE, Int.reduceLT, Int.reduceToNat, Int.reduceEq]
    repeat (refine ⟨by (first | omega | (intro h1 h2; exact ⟨h1, h2⟩) | (intro h1; omega) | (intro h1; exact h1) | trivial), ?_⟩)
    exact hQ _ _ rfl
theorem cw6 (l : List Rec) (cs : List Int) (hl : ∀ r ∈ l, r.ok) (hn : l.length < 9223372036854775808) (hto : ∀ r ∈ l, r.to.length ≤ 35184372088832) (hcs : ∀ c ∈ cs, i32ok c) (hcn : cs.length < 9223372036854775808) : CW Try.prog 6 [.cv (.sl 8 (recs l)), .cv (.sl 1 (runes cs))] ⟨[.cv (.bool true)], []⟩ :=
  top6 rfl rfl [] trivial (w6 l cs hl hn hto hcs hcn _ fun σ H h => ret1 rfl h)
end Go.Proofs.Ytcpdnpaedkcebaa.V
