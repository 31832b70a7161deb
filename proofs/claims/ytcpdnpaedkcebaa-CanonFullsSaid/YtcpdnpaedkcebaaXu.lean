/- Contracts: the law CanonFulls. -/
import Derived.Test.YtcpdnpaedkcebaaXs
namespace Go.Proofs.Ytcpdnpaedkcebaa.V
open Go Go.RowKit
set_option linter.unusedVariables false
set_option linter.unusedSimpArgs false
set_option maxRecDepth 100000
/- endonym/endonymlaw7.CanonFulls -/
def l4_1 : IC := (.seq (.seq (.reg [⟨(some 54), 0, none, .mv (.t 11)⟩,
  ⟨(some 55), 0, none, .mv (.t 7)⟩,
  ⟨(some 56), 0, none, .len false (.t 55)⟩,
  ⟨(some 57), 0, none, .bin .lss (.t 54) (.t 56)⟩]) (.cond (.t 57) .skip (.exit 2))) (.seq (.block 3 (.reg [⟨(some 60), 0, none, .mv (.t 7)⟩,
  ⟨(some 61), 0, none, .mv (.t 11)⟩,
  ⟨(some 62), 0, none, .ia (.t 60) (.t 61) 1⟩,
  ⟨none, 0, none, .st (.t 62) (.c (.int .i32 (-9))) none⟩])) (.reg [⟨(some 58), 0, none, .mv (.t 11)⟩,
  ⟨(some 59), 0, none, .bin .add (.t 58) (.c (.int .i64 1))⟩,
  ⟨(some 11), 0, none, .mv (.t 59)⟩])))
def n4_1 : Norm := ⟨[(0, .plain), (1, .plain), (5, .plain), (6, .plain), (7, .own 1 1000007), (11, .plain)], []⟩
def l4_0 : IC := (.seq (.seq (.reg [⟨(some 14), 0, none, .mv (.t 6)⟩,
  ⟨(some 15), 0, none, .mv (.t 1)⟩,
  ⟨(some 16), 0, none, .len false (.t 15)⟩,
  ⟨(some 17), 0, none, .bin .lss (.t 14) (.t 16)⟩,
  ⟨(some 18), 0, none, .mv (.t 17)⟩,
  ⟨(some 19), 0, (some (18, true)), .mv (.t 6)⟩,
  ⟨(some 20), 0, (some (18, true)), .bin .lss (.t 19) (.c (.int .i64 40))⟩,
  ⟨(some 21), 0, none, .pick (.t 18) (.t 20) (.c (.bool false))⟩]) (.cond (.t 21) .skip (.exit 0))) (.seq (.block 1 (.seq (.reg [⟨(some 25), 0, none, .mv (.t 5)⟩,
  ⟨(some 26), 0, none, .mv (.t 1)⟩,
  ⟨(some 27), 0, none, .mv (.t 6)⟩,
  ⟨(some 28), 0, none, .ia (.t 26) (.t 27) 1⟩,
  ⟨(some 29), 0, none, .ld (.t 28) none⟩,
  ⟨(some 30), 11, none, .call (.c (.fn 24)) [((.t 25), .view 8), ((.t 29), .plain)]⟩,
  ⟨(some 24), 0, none, .mv (.t 30)⟩,
  ⟨(some 31), 0, none, .ext (.t 24) 0⟩,
  ⟨(some 32), 0, none, .ext (.t 24) 1⟩,
  ⟨(some 7), 0, none, .mv (.t 31)⟩,
  ⟨(some 8), 0, none, .mv (.t 32)⟩]) (.seq (.draw (.take 0 ⟨(some 34), 0, none, .mv (.t 0)⟩ (.take 1 ⟨(some 35), 0, none, .mv (.t 5)⟩ (.take 2 ⟨(some 36), 0, none, .len false (.t 35)⟩ (.take 3 ⟨(some 37), 0, none, .slc (.t 34) none (some (.t 36)) none 8⟩ (.take 4 ⟨(some 38), 0, none, .mv (.t 1)⟩ (.take 5 ⟨(some 39), 0, none, .mv (.t 6)⟩ (.take 6 ⟨(some 40), 0, none, .ia (.t 38) (.t 39) 1⟩ (.take 7 ⟨(some 41), 0, none, .ld (.t 40) none⟩ (.br 8 ⟨(some 42), 21, none, .call (.c (.fn 25)) [((.t 37), .view 8), ((.t 41), .plain)]⟩ [false, true, true, true, false, true, true, true] (.take 9 ⟨(some 33), 0, none, .mv (.t 42)⟩ (.take 10 ⟨(some 43), 0, none, .ext (.t 33) 0⟩ (.take 11 ⟨(some 44), 0, none, .ext (.t 33) 1⟩ (.take 12 ⟨(some 9), 0, none, .mv (.t 43)⟩ (.take 13 ⟨(some 10), 0, none, .mv (.t 44)⟩ .done))))) .no)))))))))) (.seq (.seq (.reg [⟨(some 45), 0, none, .mv (.t 7)⟩,
  ⟨(some 46), 0, none, .mv (.t 9)⟩,
  ⟨(some 47), 31, none, .call (.c (.fn 20)) [((.t 45), .view 1), ((.t 46), .view 1)]⟩,
  ⟨(some 48), 0, none, .not (.t 47)⟩,
  ⟨(some 49), 0, none, .mv (.t 48)⟩,
  ⟨(some 50), 0, (some (49, false)), .mv (.t 8)⟩,
  ⟨(some 51), 0, (some (49, false)), .mv (.t 10)⟩,
  ⟨(some 52), 0, (some (49, false)), .bin .neq (.t 50) (.t 51)⟩,
  ⟨(some 53), 0, none, .pick (.t 49) (.c (.bool true)) (.t 52)⟩]) (.cond (.t 53) (.seq (.reg [⟨(some 4), 0, none, .mv (.c (.bool false))⟩]) .ret) .skip)) (.seq (.reg [⟨(some 11), 0, none, .mv (.c (.int .i64 0))⟩]) (.block 2 (.loop n4_1 l4_1))))))) (.reg [⟨(some 22), 0, none, .mv (.t 6)⟩,
  ⟨(some 23), 0, none, .bin .add (.t 22) (.c (.int .i64 1))⟩,
  ⟨(some 6), 0, none, .mv (.t 23)⟩])))
def n4_0 : Norm := ⟨[(0, .plain), (1, .plain), (5, .plain), (6, .plain)], []⟩
def b4 : IC := (.seq (.reg [⟨(some 4), 0, none, .mv (.c (.bool false))⟩]) (.seq (.reg [⟨(some 12), 0, none, .mv (.t 0)⟩,
  ⟨(some 13), 1, none, .call (.c (.fn 14)) [((.t 12), .view 8), ((.c (.int .i64 120)), .plain)]⟩,
  ⟨(some 5), 0, none, .mv (.t 13)⟩]) (.seq (.seq (.reg [⟨(some 6), 0, none, .mv (.c (.int .i64 0))⟩]) (.block 0 (.loop n4_0 l4_0))) (.seq (.reg [⟨(some 63), 41, none, .call (.c (.fn 22)) []⟩,
  ⟨(some 64), 0, none, .mv (.t 63)⟩,
  ⟨(some 65), 0, (some (64, true)), .mv (.t 5)⟩,
  ⟨(some 66), 0, (some (64, true)), .mv (.t 0)⟩,
  ⟨(some 67), 0, (some (64, true)), .mv (.t 5)⟩,
  ⟨(some 68), 0, (some (64, true)), .len false (.t 67)⟩,
  ⟨(some 69), 0, (some (64, true)), .slc (.t 66) none (some (.t 68)) none 8⟩,
  ⟨(some 70), 51, (some (64, true)), .call (.c (.fn 23)) [((.t 65), .view 8), ((.t 69), .view 8)]⟩,
  ⟨(some 71), 0, none, .pick (.t 64) (.t 70) (.c (.bool false))⟩,
  ⟨(some 4), 0, none, .mv (.t 71)⟩]) .ret))))
def rs4 : List (Nat × Option Nat × Mode) := [(4, none, .plain)]
theorem chk4 : chkC Try.prog Try.f4.ntmps b4 (Try.f4.body.getD .skip) = true := by decide +kernel
theorem top4 {args : List Arg} {out : Out} (ha : args.length.ble Try.f4.ntmps = true) (h8 : args.length.ble 8 = true) (mss : List (List (Option Nat))) (hb : backOK args out.back)
    (hw : rnC Try.prog b4 (topQ rs4 args mss out) (slotsOf (argsAV argBase args 0) 0) (argsOb argBase args 0)) : CW Try.prog 4 args out :=
  CW.of Try.func4 rs4 mss (by decide +kernel) (by decide +kernel) (by decide +kernel) ha h8 chk4 hb hw

theorem resL_len (l : List Rec) (c : Int) : (resL (fullL l c)).length < 9223372036854775808 := by
  cases h : fullL l c with
  | error e => simp [resL]
  | ok x =>
    have := walkN_len l 16 _ _ _ x (by decide) h
    show x.length < _
    omega
theorem w4 (l : List Rec) (cs : List Int) (hl : ∀ r ∈ l, r.ok) (hn : l.length < 9223372036854775808) (hto : ∀ r ∈ l, r.to.length ≤ 35184372088832) (hcs : ∀ c ∈ cs, i32ok c) (hcn : cs.length < 9223372036854775808) (Q : Ex → Slots → LH → Prop) (hQ : ∀ σ H, Slots.get σ 4 = .c (.bool true) → Q .ret σ H) : rnC Try.prog b4 Q [(0, .c (.sl 8 (recs l))), (1, .c (.sl 1 (runes cs)))] [] := by
  unfold b4
  have hl' : ∀ r ∈ l.take 120, r.ok := fun r hr => hl r (List.mem_of_mem_take hr)
  have hto' : ∀ r ∈ l.take 120, r.to.length ≤ 35184372088832 := fun r hr => hto r (List.mem_of_mem_take hr)
  obtain ⟨hn1, hn2⟩ := take_len l 120
  have c14 : CW Try.prog 14 [.cv (.sl 8 (recs l)), .cv (.int .i64 120)] ⟨[.cv (.sl 8 (recs (l.take 120)))], []⟩ := (cw14 l 120 (by omega) hn hto).pubRes rfl
  simp only [go_sem, ↓reduceIte, Nat.reduceEqDiff, Nat.reduceMul, Nat.reduceAdd, Nat.reduceDiv, Nat.reduceSub, Nat.reduceLT, Nat.reduceLeDiff, Int.reduceLE, Int.reduceLT, Int.reduceToNat, Int.reduceEq]
  refine callK_1 _ (fun _ => c14) (by simp only [go_sem, ↓reduceIte, Nat.reduceEqDiff, Nat.reduceMul, Nat.reduceAdd, Nat.reduceDiv, Nat.reduceSub, Nat.reduceLT, Nat.reduceLeDiff, Int.reduceLE, Int.reduceLT, Int.reduceToNat, Int.reduceEq]) rfl rfl ?_
  simp only [go_sem, ↓reduceIte, Nat.reduceEqDiff, Nat.reduceMul, Nat.reduceAdd, Nat.reduceDiv, Nat.reduceSub, Nat.reduceLT, Nat.reduceLeDiff, Int.reduceLE, Int.reduceLT, Int.reduceToNat, Int.reduceEq]
  repeat (refine ⟨by (first | omega | (intro h1 h2; exact ⟨h1, h2⟩) | (intro h1; omega) | (intro h1; exact h1) | trivial), ?_⟩)
  refine loopR.by (α := Nat) (fun i => [(0, .c (.sl 8 (recs l))), (1, .c (.sl 1 (runes cs))), (5, .c (.sl 8 (recs (l.take 120)))), (6, .c (.int .i64 i))]) (fun i => []) (fun i => 60 - i) (fun i => i ≤ 40) 0 (Nat.zero_le _) ?_ ?_
  · intro Y hY
    simp only [go_sem, ↓reduceIte, Nat.reduceEqDiff, Nat.reduceMul, Nat.reduceAdd, Nat.reduceDiv, Nat.reduceSub, Nat.reduceLT, Nat.reduceLeDiff, Int.reduceLE, Int.reduceLT, Int.reduceToNat, Int.reduceEq, n4_0]
    exact hY
  intro i hk Y hY
  unfold l4_0
  rcases Nat.lt_or_ge i cs.length with hlt | hge
  · obtain ⟨c, e, hm, _⟩ := runes_at hlt
    have hX : (resL (fullL (l.take 120) c)).length < 9223372036854775808 := resL_len _ _
    generalize hx : resL (fullL (l.take 120) c) = X at hX
    generalize hy : resE (fullL (l.take 120) c) = E
    have c24 := cw24 (l.take 120) hl' (by omega) hto' c (hcs c hm)
    have c25 := cw25 (l.take 120) hl' (by omega) hto' c (hcs c hm)
    rw [hx, hy] at c24 c25
    simp only [go_sem, ↓reduceIte, Nat.reduceEqDiff, Nat.reduceMul, Nat.reduceAdd, Nat.reduceDiv, Nat.reduceSub, Nat.reduceLT, Nat.reduceLeDiff, Int.reduceLE, Int.reduceLT, Int.reduceToNat, Int.reduceEq, n4_0, e]
    refine ⟨fun hi => ⟨by omega, ?_⟩, fun h => ?_⟩
    · refine callK_i ⟨[.own 1 (runes X), .cv (.int .i64 E)], []⟩ (fun _ => c24) ⟨by simp only [go_sem, ↓reduceIte, Nat.reduceEqDiff, Nat.reduceMul, Nat.reduceAdd, Nat.reduceDiv, Nat.reduceSub, Nat.reduceLT, Nat.reduceLeDiff, Int.reduceLE, Int.reduceLT, Int.reduceToNat, Int.reduceEq], .inl rfl, ⟨by simp only [go_sem, ↓reduceIte, Nat.reduceEqDiff, Nat.reduceMul, Nat.reduceAdd, Nat.reduceDiv, Nat.reduceSub, Nat.reduceLT, Nat.reduceLeDiff, Int.reduceLE, Int.reduceLT, Int.reduceToNat, Int.reduceEq], by simp, by simp, by simp⟩, ?_⟩
      simp only [go_sem, ↓reduceIte, Nat.reduceEqDiff, Nat.reduceMul, Nat.reduceAdd, Nat.reduceDiv, Nat.reduceSub, Nat.reduceLT, Nat.reduceLeDiff, Int.reduceLE, Int.reduceLT, Int.reduceToNat, Int.reduceEq, e]
      rw [slc_self]
      refine ⟨⟨by omega, by omega, by omega, by omega⟩, ⟨by omega, by omega⟩, ?_⟩
      refine callK_i ⟨[.own 1 (runes X), .cv (.int .i64 E)], []⟩ (fun _ => c25) ⟨by simp only [go_sem, ↓reduceIte, Nat.reduceEqDiff, Nat.reduceMul, Nat.reduceAdd, Nat.reduceDiv, Nat.reduceSub, Nat.reduceLT, Nat.reduceLeDiff, Int.reduceLE, Int.reduceLT, Int.reduceToNat, Int.reduceEq], .inl rfl, ⟨by simp only [go_sem, ↓reduceIte, Nat.reduceEqDiff, Nat.reduceMul, Nat.reduceAdd, Nat.reduceDiv, Nat.reduceSub, Nat.reduceLT, Nat.reduceLeDiff, Int.reduceLE, Int.reduceLT, Int.reduceToNat, Int.reduceEq], by simp, by simp, by simp⟩, ?_⟩
      simp only [go_sem, ↓reduceIte, Nat.reduceEqDiff, Nat.reduceMul, Nat.reduceAdd, Nat.reduceDiv, Nat.reduceSub, Nat.reduceLT, Nat.reduceLeDiff, Int.reduceLE, Int.reduceLT, Int.reduceToNat, Int.reduceEq, e]
      refine ⟨⟨by omega, by omega⟩, ?_⟩
      have ht : List.take X.length (runes X) = runes X := List.take_of_length_le (by rw [runes_len]; omega)
      rw [ht]
      refine callK_V _ (fun _ => cw20 X X hX hX) (by simp only [go_sem, ↓reduceIte, Nat.reduceEqDiff, Nat.reduceMul, Nat.reduceAdd, Nat.reduceDiv, Nat.reduceSub, Nat.reduceLT, Nat.reduceLeDiff, Int.reduceLE, Int.reduceLT, Int.reduceToNat, Int.reduceEq]) rfl (by simp only [go_sem, ↓reduceIte, Nat.reduceEqDiff, Nat.reduceMul, Nat.reduceAdd, Nat.reduceDiv, Nat.reduceSub, Nat.reduceLT, Nat.reduceLeDiff, Int.reduceLE, Int.reduceLT, Int.reduceToNat, Int.reduceEq]) rfl rfl ?_
      simp only [go_sem, ↓reduceIte, Nat.reduceEqDiff, Nat.reduceMul, Nat.reduceAdd, Nat.reduceDiv, Nat.reduceSub, Nat.reduceLT, Nat.reduceLeDiff, Int.reduceLE, Int.reduceLT, Int.reduceToNat, Int.reduceEq]
      repeat (refine ⟨by (first | omega | (intro h1 h2; exact ⟨h1, h2⟩) | (intro h1; omega) | (intro h1; exact h1) | trivial), ?_⟩)
      refine loopR.by (α := Nat × List CV) (fun p => [(0, .c (.sl 8 (recs l))), (1, .c (.sl 1 (runes cs))), (5, .c (.sl 8 (recs (l.take 120)))), (6, .c (.int .i64 i)), (7, .osl 1000007 0 X.length), (11, .c (.int .i64 p.1))]) (fun p => [(1000007, .row 1 p.2)]) (fun p => X.length - p.1) (fun p => p.1 ≤ X.length ∧ p.2.length = X.length) (0, runes X) ⟨Nat.zero_le _, runes_len X⟩ ?_ ?_
      · intro Z hZ
        simp only [go_sem, ↓reduceIte, Nat.reduceEqDiff, Nat.reduceMul, Nat.reduceAdd, Nat.reduceDiv, Nat.reduceSub, Nat.reduceLT, Nat.reduceLeDiff, Int.reduceLE, Int.reduceLT, Int.reduceToNat, Int.reduceEq, n4_1]
        first | exact hZ | exact ⟨by simp, hZ⟩
      intro p hk2 Z hZ
      obtain ⟨k, xs⟩ := p
      obtain ⟨hk2, hxs⟩ := hk2
      simp only at hk2 hxs
      unfold l4_1
      simp only [go_sem, ↓reduceIte, Nat.reduceEqDiff, Nat.reduceMul, Nat.reduceAdd, Nat.reduceDiv, Nat.reduceSub, Nat.reduceLT, Nat.reduceLeDiff, Int.reduceLE, Int.reduceLT, Int.reduceToNat, Int.reduceEq, n4_1]
      refine ⟨fun h => ?_, fun _ => ?_⟩
      · generalize hrow : xs.set k _ = ys
        have hys : ys.length = X.length := by rw [← hrow, List.length_set, hxs]
        rw [hys, succ64 (show k < X.length by omega) (by omega)]
        exact ⟨by omega, rfl, hZ (k + 1, ys) ⟨by simp only; omega, hys⟩ (by simp only; omega)⟩
      · rw [succ64 (show i < 60 by omega) (by omega)]
        exact hY (i + 1) (by omega) (by omega)
    · refine callK_1 _ (fun _ => cw22) (by simp only [go_sem, ↓reduceIte, Nat.reduceEqDiff, Nat.reduceMul, Nat.reduceAdd, Nat.reduceDiv, Nat.reduceSub, Nat.reduceLT, Nat.reduceLeDiff, Int.reduceLE, Int.reduceLT, Int.reduceToNat, Int.reduceEq]) rfl rfl ?_
      simp only [go_sem, ↓reduceIte, Nat.reduceEqDiff, Nat.reduceMul, Nat.reduceAdd, Nat.reduceDiv, Nat.reduceSub, Nat.reduceLT, Nat.reduceLeDiff, Int.reduceLE, Int.reduceLT, Int.reduceToNat, Int.reduceEq]
      repeat (refine ⟨by (first | omega | (intro h1 h2; exact ⟨h1, h2⟩) | (intro h1; omega) | (intro h1; exact h1) | trivial), ?_⟩)
      rw [slc_self]
      refine callK_1 _ (fun _ => cw23 (l.take 120) (l.take 120) (by omega) (by omega) hto' hto') (by simp only [go_sem, ↓reduceIte, Nat.reduceEqDiff, Nat.reduceMul, Nat.reduceAdd, Nat.reduceDiv, Nat.reduceSub, Nat.reduceLT, Nat.reduceLeDiff, Int.reduceLE, Int.reduceLT, Int.reduceToNat, Int.reduceEq]) rfl rfl ?_
      simp only [go_sem, ↓reduceIte, Nat.reduceEqDiff, Nat.reduceMul, Nat.reduceAdd, Nat.reduceDiv, Nat.reduceSub, Nat.reduceLT, Nat.reduceLeDiff, Int.reduceLE, Int.reduceLT, Int.reduceToNat, Int.reduceEq]
      repeat (refine ⟨by (first | omega | (intro h1 h2; exact ⟨h1, h2⟩) | (intro h1; omega) | (intro h1; exact h1) | trivial), ?_⟩)
      rw [sameL_self]
      exact hQ _ _ rfl
  · have e : (runes cs).getD i .undef = .undef := by
      rw [List.getD_eq_getElem?_getD, List.getElem?_eq_none (by rw [runes_len]; omega)]; rfl
    simp only [go_sem, ↓reduceIte, Nat.reduceEqDiff, Nat.reduceMul, Nat.reduceAdd, Nat.reduceDiv, Nat.reduceSub, Nat.reduceLT, Nat.reduceLeDiff, Int.reduceLE, Int.reduceLT, Int.reduceToNat, Int.reduceEq, n4_0, e]
    refine ⟨fun hi => by omega, fun h => ?_⟩
    refine callK_1 _ (fun _ => cw22) (by simp only [go_sem, ↓reduceIte, Nat.reduceEqDiff, Nat.reduceMul, Nat.reduceAdd, Nat.reduceDiv, Nat.reduceSub, Nat.reduceLT, Nat.reduceLeDiff, Int.reduceLE, Int.reduceLT, Int.reduceToNat, Int.reduceEq]) rfl rfl ?_
    simp only [go_sem, ↓reduceIte, Nat.reduceEqDiff, Nat.reduceMul, Nat.reduceAdd, Nat.reduceDiv, Nat.reduceSub, Nat.reduceLT, Nat.reduceLeDiff, Int.reduceLE, Int.reduceLT, Int.reduceToNat, Int.reduceEq]
    repeat (refine ⟨by (first | omega | (intro h1 h2; exact ⟨h1, h2⟩) | (intro h1; omega) | (intro h1; exact h1) | trivial), ?_⟩)
    rw [slc_self]
    refine callK_1 _ (fun _ => cw23 (l.take 120) (l.take 120) (by omega) (by omega) hto' hto') (by simp only [go_sem, ↓reduceIte, Nat.reduceEqDiff, Nat.reduceMul, Nat.reduceAdd, Nat.reduceDiv, Nat.reduceSub, Nat.reduceLT, Nat.reduceLeDiff, Int.reduceLE, Int.reduceLT, Int.reduceToNat, Int.reduceEq]) rfl rfl ?_
    simp only [go_sem, ↓reduceIte, Nat.reduceEqDiff, Nat.reduceMul, Nat.reduceAdd, Nat.reduceDiv, Nat.reduceSub, Nat.reduceLT, Nat.reduceLeDiff, Int.reduceLE, Int.reduceLT, Int.reduceToNat, Int.reduceEq]
    repeat (refine ⟨by (first | omega | (intro h1 h2; exact ⟨h1, h2⟩) | (intro h1; omega) | (intro h1; exact h1) | trivial), ?_⟩)
    rw [sameL_self]
    exact hQ _ _ rfl
theorem cw4 (l : List Rec) (cs : List Int) (hl : ∀ r ∈ l, r.ok) (hn : l.length < 9223372036854775808) (hto : ∀ r ∈ l, r.to.length ≤ 35184372088832) (hcs : ∀ c ∈ cs, i32ok c) (hcn : cs.length < 9223372036854775808) : CW Try.prog 4 [.cv (.sl 8 (recs l)), .cv (.sl 1 (runes cs))] ⟨[.cv (.bool true)], []⟩ :=
  top4 rfl rfl [] trivial (w4 l cs hl hn hto hcs hcn _ fun σ H h => ret1 rfl h)
end Go.Proofs.Ytcpdnpaedkcebaa.V
