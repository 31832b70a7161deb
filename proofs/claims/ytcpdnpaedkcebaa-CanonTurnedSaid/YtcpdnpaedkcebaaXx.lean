/- Contracts: the law CanonTurned. -/
import Derived.Test.YtcpdnpaedkcebaaXs
import Derived.Test.YtcpdnpaedkcebaaPg
namespace Go.Proofs.Ytcpdnpaedkcebaa.V
open Go Go.RowKit
set_option linter.unusedVariables false
set_option linter.unusedSimpArgs false
set_option maxRecDepth 100000
/- endonym/endonymlaw7.CanonTurned -/
def l7_0 : IC := (.seq (.seq (.reg [⟨(some 31), 0, none, .mv (.t 11)⟩,
  ⟨(some 32), 0, none, .mv (.t 1)⟩,
  ⟨(some 33), 0, none, .len false (.t 32)⟩,
  ⟨(some 34), 0, none, .bin .lss (.t 31) (.t 33)⟩,
  ⟨(some 35), 0, none, .mv (.t 34)⟩,
  ⟨(some 36), 0, (some (35, true)), .mv (.t 11)⟩,
  ⟨(some 37), 0, (some (35, true)), .bin .lss (.t 36) (.c (.int .i64 60))⟩,
  ⟨(some 38), 0, none, .pick (.t 35) (.t 37) (.c (.bool false))⟩,
  ⟨(some 39), 0, none, .mv (.t 38)⟩,
  ⟨(some 40), 0, (some (39, true)), .mv (.t 10)⟩,
  ⟨(some 41), 0, (some (39, true)), .len false (.t 40)⟩,
  ⟨(some 42), 0, (some (39, true)), .bin .gtr (.t 41) (.c (.int .i64 1))⟩,
  ⟨(some 43), 0, none, .pick (.t 39) (.t 42) (.c (.bool false))⟩]) (.cond (.t 43) .skip (.exit 0))) (.seq (.block 1 (.seq (.reg [⟨(some 46), 0, none, .mv (.t 1)⟩,
  ⟨(some 47), 0, none, .mv (.t 11)⟩,
  ⟨(some 48), 0, none, .ia (.t 46) (.t 47) 1⟩,
  ⟨(some 49), 0, none, .ld (.t 48) none⟩,
  ⟨(some 50), 0, none, .bin .and (.t 49) (.c (.int .i64 1073741823))⟩,
  ⟨(some 51), 0, none, .mv (.t 10)⟩,
  ⟨(some 52), 0, none, .len false (.t 51)⟩,
  ⟨(some 53), 0, none, .bin .rem (.t 50) (.t 52)⟩,
  ⟨(some 12), 0, none, .mv (.t 53)⟩]) (.seq (.reg [⟨(some 54), 0, none, .mv (.t 1)⟩,
  ⟨(some 55), 0, none, .mv (.t 11)⟩,
  ⟨(some 56), 0, none, .ia (.t 54) (.t 55) 1⟩,
  ⟨(some 57), 0, none, .ld (.t 56) none⟩,
  ⟨(some 58), 0, none, .bin .shr (.t 57) (.c (.int .u64 30))⟩,
  ⟨(some 59), 0, none, .bin .and (.t 58) (.c (.int .i64 1073741823))⟩,
  ⟨(some 60), 0, none, .mv (.t 10)⟩,
  ⟨(some 61), 0, none, .len false (.t 60)⟩,
  ⟨(some 62), 0, none, .bin .rem (.t 59) (.t 61)⟩,
  ⟨(some 13), 0, none, .mv (.t 62)⟩]) (.draw (.take 0 ⟨(some 63), 0, none, .mv (.t 10)⟩ (.take 1 ⟨(some 64), 0, none, .mv (.t 12)⟩ (.take 2 ⟨(some 65), 0, none, .mv (.t 10)⟩ (.take 3 ⟨(some 66), 0, none, .mv (.t 13)⟩ (.take 4 ⟨(some 67), 0, none, .mv (.t 10)⟩ (.take 5 ⟨(some 68), 0, none, .mv (.t 13)⟩ (.take 6 ⟨(some 69), 0, none, .ia (.t 67) (.t 68) 8⟩ (.take 7 ⟨(some 70), 0, none, .ld (.t 69) (some 8)⟩ (.take 8 ⟨(some 71), 0, none, .mv (.t 10)⟩ (.take 9 ⟨(some 72), 0, none, .mv (.t 12)⟩ (.take 10 ⟨(some 73), 0, none, .ia (.t 71) (.t 72) 8⟩ (.take 11 ⟨(some 74), 0, none, .ld (.t 73) (some 8)⟩ (.take 12 ⟨(some 75), 0, none, .ia (.t 63) (.t 64) 8⟩ (.br 13 ⟨none, 0, none, .st (.t 75) (.t 70) (some 8)⟩ [false, false, true, true, true, false, false, false, false, true, true, false, false] (.take 14 ⟨(some 76), 0, none, .ia (.t 65) (.t 66) 8⟩ (.br 15 ⟨none, 0, none, .st (.t 76) (.t 74) (some 8)⟩ [false, false, false, false, false, false] .done .no)) .no)))))))))))))))))) (.reg [⟨(some 44), 0, none, .mv (.t 11)⟩,
  ⟨(some 45), 0, none, .bin .add (.t 44) (.c (.int .i64 1))⟩,
  ⟨(some 11), 0, none, .mv (.t 45)⟩])))
def n7_0 : Norm := ⟨[(1, .plain), (2, .plain), (7, .plain), (10, .own 8 1000010), (11, .plain)], []⟩
def l7_1 : IC := (.seq (.seq (.reg [⟨(some 84), 0, none, .mv (.t 14)⟩,
  ⟨(some 85), 0, none, .mv (.t 2)⟩,
  ⟨(some 86), 0, none, .len false (.t 85)⟩,
  ⟨(some 87), 0, none, .bin .lss (.t 84) (.t 86)⟩,
  ⟨(some 88), 0, none, .mv (.t 87)⟩,
  ⟨(some 89), 0, (some (88, true)), .mv (.t 14)⟩,
  ⟨(some 90), 0, (some (88, true)), .bin .lss (.t 89) (.c (.int .i64 30))⟩,
  ⟨(some 91), 0, none, .pick (.t 88) (.t 90) (.c (.bool false))⟩]) (.cond (.t 91) .skip (.exit 2))) (.seq (.block 3 (.seq (.reg [⟨(some 95), 0, none, .mv (.t 7)⟩,
  ⟨(some 96), 0, none, .mv (.t 2)⟩,
  ⟨(some 97), 0, none, .mv (.t 14)⟩,
  ⟨(some 98), 0, none, .ia (.t 96) (.t 97) 1⟩,
  ⟨(some 99), 0, none, .ld (.t 98) none⟩,
  ⟨(some 100), 51, none, .call (.c (.fn 24)) [((.t 95), .view 8), ((.t 99), .plain)]⟩,
  ⟨(some 94), 0, none, .mv (.t 100)⟩,
  ⟨(some 101), 0, none, .ext (.t 94) 0⟩,
  ⟨(some 102), 0, none, .ext (.t 94) 1⟩,
  ⟨(some 15), 0, none, .mv (.t 101)⟩,
  ⟨(some 16), 0, none, .mv (.t 102)⟩]) (.seq (.reg [⟨(some 104), 0, none, .mv (.t 10)⟩,
  ⟨(some 105), 0, none, .mv (.t 2)⟩,
  ⟨(some 106), 0, none, .mv (.t 14)⟩,
  ⟨(some 107), 0, none, .ia (.t 105) (.t 106) 1⟩,
  ⟨(some 108), 0, none, .ld (.t 107) none⟩,
  ⟨(some 109), 61, none, .call (.c (.fn 24)) [((.t 104), .view 8), ((.t 108), .plain)]⟩,
  ⟨(some 103), 0, none, .mv (.t 109)⟩,
  ⟨(some 110), 0, none, .ext (.t 103) 0⟩,
  ⟨(some 111), 0, none, .ext (.t 103) 1⟩,
  ⟨(some 17), 0, none, .mv (.t 110)⟩,
  ⟨(some 18), 0, none, .mv (.t 111)⟩]) (.seq (.reg [⟨(some 112), 0, none, .mv (.t 15)⟩,
  ⟨(some 113), 0, none, .mv (.t 17)⟩,
  ⟨(some 114), 71, none, .call (.c (.fn 20)) [((.t 112), .view 1), ((.t 113), .view 1)]⟩,
  ⟨(some 115), 0, none, .not (.t 114)⟩]) (.cond (.t 115) (.seq (.reg [⟨(some 6), 0, none, .mv (.c (.bool false))⟩]) .ret) .skip))))) (.reg [⟨(some 92), 0, none, .mv (.t 14)⟩,
  ⟨(some 93), 0, none, .bin .add (.t 92) (.c (.int .i64 1))⟩,
  ⟨(some 14), 0, none, .mv (.t 93)⟩])))
def n7_1 : Norm := ⟨[(2, .plain), (7, .plain), (10, .own 8 1000010), (14, .plain)], []⟩
def b7 : IC := (.seq (.reg [⟨(some 6), 0, none, .mv (.c (.bool false))⟩]) (.seq (.reg [⟨(some 19), 0, none, .mv (.t 0)⟩,
  ⟨(some 20), 1, none, .call (.c (.fn 14)) [((.t 19), .view 8), ((.c (.int .i64 120)), .plain)]⟩,
  ⟨(some 7), 0, none, .mv (.t 20)⟩]) (.seq (.reg [⟨(some 22), 0, none, .mv (.t 7)⟩,
  ⟨(some 23), 11, none, .call (.c (.fn 26)) [((.t 22), .view 8)]⟩,
  ⟨(some 21), 0, none, .mv (.t 23)⟩,
  ⟨(some 24), 0, none, .ext (.t 21) 0⟩,
  ⟨(some 25), 0, none, .ext (.t 21) 1⟩,
  ⟨(some 8), 0, none, .mv (.t 24)⟩,
  ⟨(some 9), 0, none, .mv (.t 25)⟩]) (.seq (.seq (.reg [⟨(some 26), 0, none, .mv (.t 9)⟩,
  ⟨(some 27), 0, none, .bin .neq (.t 26) (.c (.int .i64 0))⟩]) (.cond (.t 27) (.seq (.reg [⟨(some 28), 21, none, .call (.c (.fn 22)) []⟩,
  ⟨(some 6), 0, none, .mv (.t 28)⟩]) .ret) .skip)) (.seq (.reg [⟨(some 29), 0, none, .mv (.t 7)⟩,
  ⟨(some 30), 31, none, .call (.c (.fn 14)) [((.t 29), .view 8), ((.c (.int .i64 120)), .plain)]⟩,
  ⟨(some 10), 0, none, .mv (.t 30)⟩]) (.seq (.seq (.reg [⟨(some 11), 0, none, .mv (.c (.int .i64 0))⟩]) (.block 0 (.loop n7_0 l7_0))) (.seq (.reg [⟨(some 78), 0, none, .mv (.t 10)⟩,
  ⟨(some 79), 41, none, .call (.c (.fn 26)) [((.t 78), .view 8)]⟩,
  ⟨(some 77), 0, none, .mv (.t 79)⟩,
  ⟨(some 80), 0, none, .ext (.t 77) 0⟩,
  ⟨(some 81), 0, none, .ext (.t 77) 1⟩,
  ⟨(some 9), 0, none, .mv (.t 81)⟩]) (.seq (.seq (.reg [⟨(some 82), 0, none, .mv (.t 9)⟩,
  ⟨(some 83), 0, none, .bin .neq (.t 82) (.c (.int .i64 0))⟩]) (.cond (.t 83) (.seq (.reg [⟨(some 6), 0, none, .mv (.c (.bool false))⟩]) .ret) .skip)) (.seq (.seq (.reg [⟨(some 14), 0, none, .mv (.c (.int .i64 0))⟩]) (.block 2 (.loop n7_1 l7_1))) (.seq (.reg [⟨(some 116), 81, none, .call (.c (.fn 22)) []⟩,
  ⟨(some 6), 0, none, .mv (.t 116)⟩]) .ret))))))))))
def rs7 : List (Nat × Option Nat × Mode) := [(6, none, .plain)]
theorem chk7 : chkC Try.prog Try.f7.ntmps b7 (Try.f7.body.getD .skip) = true := by decide +kernel
theorem top7 {args : List Arg} {out : Out} (ha : args.length.ble Try.f7.ntmps = true) (h8 : args.length.ble 8 = true) (mss : List (List (Option Nat))) (hb : backOK args out.back)
    (hw : rnC Try.prog b7 (topQ rs7 args mss out) (slotsOf (argsAV argBase args 0) 0) (argsOb argBase args 0)) : CW Try.prog 7 args out :=
  CW.of Try.func7 rs7 mss (by decide +kernel) (by decide +kernel) (by decide +kernel) ha h8 chk7 hb hw

theorem ints_at {l : List Int} {k : Nat} (h : k < l.length) : ∃ c, (l.map (CV.int .i64)).getD k .undef = .int .i64 c ∧ c ∈ l := by
  refine ⟨l[k], ?_, List.getElem_mem h⟩
  simp [List.getD_eq_getElem?_getD, h]
theorem and_range (x : Int) : 0 ≤ bitI .and .i64 x 1073741823 ∧ bitI .and .i64 x 1073741823 ≤ 1073741823 := by
  have e : (BitVec.ofInt 64 x &&& BitVec.ofInt 64 1073741823).toNat ≤ 1073741823 := by
    rw [BitVec.toNat_and]
    exact Nat.le_trans Nat.and_le_right (by decide)
  show 0 ≤ IntKind.i64.wrap ((BitVec.ofInt 64 x &&& BitVec.ofInt 64 1073741823).toNat : Int) ∧ IntKind.i64.wrap ((BitVec.ofInt 64 x &&& BitVec.ofInt 64 1073741823).toNat : Int) ≤ 1073741823
  generalize (BitVec.ofInt 64 x &&& BitVec.ofInt 64 1073741823).toNat = n at e
  rw [wrap_i64]
  omega
theorem index_of {y : Int} {n : Nat} (h : 0 ≤ y ∧ y ≤ 1073741823) (hn : 0 < n) : ∃ a : Nat, a < n ∧ y.tmod n = a := by
  refine ⟨(y.tmod n).toNat, ?_, ?_⟩
  · rw [Int.tmod_eq_emod_of_nonneg h.1]
    have := Int.emod_lt_of_pos y (show (0 : Int) < n by omega)
    omega
  · rw [Int.tmod_eq_emod_of_nonneg h.1]
    have := Int.emod_nonneg y (show (n : Int) ≠ 0 by omega)
    omega
theorem recs_getD {l : List Rec} {k : Nat} (h : k < l.length) : (recs l).getD k .undef = l[k].cv := by
  simp [recs, List.getD_eq_getElem?_getD, h]
theorem rec_fields (r : Rec) : (List.take 8 (match r.cv with | .agg cs => cs | v => [v])).length = 8 ∧ ∀ c ∈ List.take 8 (match r.cv with | .agg cs => cs | v => [v]), (match c with | .agg cs => false | .undef => false | .raw v => false | x => true) = true := by
  refine ⟨rfl, fun c hc => ?_⟩
  have hc : c ∈ [CV.int .i64 r.kind, .int .i64 r.lo, .int .i64 r.hi, .int .i64 r.n, .sl 1 (runes r.to), .str r.name, .str r.other, .flt r.weight] := hc
  simp only [List.mem_cons, List.not_mem_nil, or_false] at hc
  rcases hc with h | h | h | h | h | h | h | h <;> subst h <;> rfl
theorem w7t (L m : List Rec) (cs : List Int) (hpm : L.Perm m) (hl : ∀ r ∈ L, r.ok) (hto : ∀ r ∈ L, r.to.length ≤ 35184372088832) (hm : ∀ r ∈ m, r.ok) (hto2 : ∀ r ∈ m, r.to.length ≤ 35184372088832)
    (hn : L.length ≤ 120) (hal : Alike L m) (hcs : ∀ c ∈ cs, i32ok c) (hcn : cs.length < 9223372036854775808) (Q : Ex → Slots → LH → Prop) (hQ : ∀ σ H, Slots.get σ 6 = .c (.bool true) → Q .ret σ H)
    (σ : Slots) (h2 : Slots.get σ 2 = .c (.sl 1 (runes cs))) (h7 : Slots.get σ 7 = .c (.sl 8 (recs L))) (h10 : Slots.get σ 10 = .osl 1000010 0 L.length) (h14 : Slots.get σ 14 = .c (.int .i64 0)) :
    loopR (rnC Try.prog l7_1) n7_1 (blkR 2 (seqR Try.prog ((IC.reg [⟨some 116, 81, none, .call (.c (.fn 22)) []⟩, ⟨some 6, 0, none, .mv (.t 116)⟩]).seq IC.ret) Q)) ⟨⟩ ⟨⟩ ⟨⟩ σ [(1000010, .row 8 (recs m))] := by
  have hml : m.length = L.length := hpm.length_eq.symm
  refine loopR.by (α := Nat) (fun i => [(2, .c (.sl 1 (runes cs))), (7, .c (.sl 8 (recs L))), (10, .osl 1000010 0 L.length), (14, .c (.int .i64 i))]) (fun i => [(1000010, .row 8 (recs m))]) (fun i => 60 - i) (fun i => i ≤ 30) 0 (Nat.zero_le _) ?_ ?_
  · intro Y hY
    have hR : (recs m).length = L.length := by rw [recs_len]; exact hml
    simp only [go_sem, ↓reduceIte, Nat.reduceEqDiff, Nat.reduceMul, Nat.reduceAdd, Nat.reduceDiv, Nat.reduceSub, Nat.reduceLT, Nat.reduceLeDiff, Int.reduceLE, Int.reduceLT, Int.reduceToNat, Int.reduceEq, n7_1, h2, h7, h10, h14, hR]
    first | exact hY | exact ⟨by simp, hY⟩
  intro i hk Y hY
  have hR : (recs m).length = L.length := by rw [recs_len]; exact hml
  unfold l7_1
  rcases Nat.lt_or_ge i cs.length with hlt | hge
  · obtain ⟨c, e, hm', _⟩ := runes_at hlt
    have hX : (resL (fullL L c)).length < 9223372036854775808 := by
      cases h : fullL L c with
      | error e => simp [resL]
      | ok x =>
        have := walkN_len L 16 _ _ _ x (by decide) h
        show x.length < _
        omega
    have c24 := cw24 L hl (by omega) hto c (hcs c hm')
    have c24' := cw24 m hm (by omega) hto2 c (hcs c hm')
    rw [← hal.full] at c24'
    generalize hx : resL (fullL L c) = X at hX c24 c24'
    generalize hy : resE (fullL L c) = E at c24 c24'
    simp only [go_sem, ↓reduceIte, Nat.reduceEqDiff, Nat.reduceMul, Nat.reduceAdd, Nat.reduceDiv, Nat.reduceSub, Nat.reduceLT, Nat.reduceLeDiff, Int.reduceLE, Int.reduceLT, Int.reduceToNat, Int.reduceEq, n7_1, e, hR]
    refine ⟨fun hi => ⟨by omega, ?_⟩, fun h => ?_⟩
    · refine callK_i ⟨[.own 1 (runes X), .cv (.int .i64 E)], []⟩ (fun _ => c24) ⟨by simp only [go_sem, ↓reduceIte, Nat.reduceEqDiff, Nat.reduceMul, Nat.reduceAdd, Nat.reduceDiv, Nat.reduceSub, Nat.reduceLT, Nat.reduceLeDiff, Int.reduceLE, Int.reduceLT, Int.reduceToNat, Int.reduceEq], .inl rfl, ⟨by simp only [go_sem, ↓reduceIte, Nat.reduceEqDiff, Nat.reduceMul, Nat.reduceAdd, Nat.reduceDiv, Nat.reduceSub, Nat.reduceLT, Nat.reduceLeDiff, Int.reduceLE, Int.reduceLT, Int.reduceToNat, Int.reduceEq], by simp, by simp, by simp⟩, ?_⟩
      simp only [go_sem, ↓reduceIte, Nat.reduceEqDiff, Nat.reduceMul, Nat.reduceAdd, Nat.reduceDiv, Nat.reduceSub, Nat.reduceLT, Nat.reduceLeDiff, Int.reduceLE, Int.reduceLT, Int.reduceToNat, Int.reduceEq, e, hR]
      refine ⟨⟨by omega, by omega⟩, ?_⟩
      have ht : List.take L.length (recs m) = recs m := List.take_of_length_le (by omega)
      have hs : ∀ x ∈ runes X, x.scalar = true := runes_scalar X
      refine callK_i ⟨[.own 1 (runes X), .cv (.int .i64 E)], []⟩ (fun _ => by rw [ht]; exact c24') ⟨by simp only [go_sem, ↓reduceIte, Nat.reduceEqDiff, Nat.reduceMul, Nat.reduceAdd, Nat.reduceDiv, Nat.reduceSub, Nat.reduceLT, Nat.reduceLeDiff, Int.reduceLE, Int.reduceLT, Int.reduceToNat, Int.reduceEq], .inr ⟨by simpa [OC.scalar, CV.scalar] using hs, by simp⟩, ⟨by simp only [go_sem, ↓reduceIte, Nat.reduceEqDiff, Nat.reduceMul, Nat.reduceAdd, Nat.reduceDiv, Nat.reduceSub, Nat.reduceLT, Nat.reduceLeDiff, Int.reduceLE, Int.reduceLT, Int.reduceToNat, Int.reduceEq], by simp, by simp, by simp⟩, ?_⟩
      simp only [go_sem, ↓reduceIte, Nat.reduceEqDiff, Nat.reduceMul, Nat.reduceAdd, Nat.reduceDiv, Nat.reduceSub, Nat.reduceLT, Nat.reduceLeDiff, Int.reduceLE, Int.reduceLT, Int.reduceToNat, Int.reduceEq]
      have ht2 : List.take X.length (runes X) = runes X := List.take_of_length_le (by rw [runes_len]; omega)
      rw [ht2]
      refine callK_V _ (fun _ => cw20 X X hX hX) (by simp only [go_sem, ↓reduceIte, Nat.reduceEqDiff, Nat.reduceMul, Nat.reduceAdd, Nat.reduceDiv, Nat.reduceSub, Nat.reduceLT, Nat.reduceLeDiff, Int.reduceLE, Int.reduceLT, Int.reduceToNat, Int.reduceEq]) rfl (by simp only [go_sem, ↓reduceIte, Nat.reduceEqDiff, Nat.reduceMul, Nat.reduceAdd, Nat.reduceDiv, Nat.reduceSub, Nat.reduceLT, Nat.reduceLeDiff, Int.reduceLE, Int.reduceLT, Int.reduceToNat, Int.reduceEq]) rfl rfl ?_
      simp only [go_sem, ↓reduceIte, Nat.reduceEqDiff, Nat.reduceMul, Nat.reduceAdd, Nat.reduceDiv, Nat.reduceSub, Nat.reduceLT, Nat.reduceLeDiff, Int.reduceLE, Int.reduceLT, Int.reduceToNat, Int.reduceEq]
      repeat (refine ⟨by (first | omega | (intro h1 h2; exact ⟨h1, h2⟩) | (intro h1; omega) | (intro h1; exact h1) | trivial), ?_⟩)
      rw [hml, succ64 (show i < 30 by omega) (by omega)]
      exact hY (i + 1) (by omega) (by omega)
    · refine callK_1 _ (fun _ => cw22) (by simp only [go_sem, ↓reduceIte, Nat.reduceEqDiff, Nat.reduceMul, Nat.reduceAdd, Nat.reduceDiv, Nat.reduceSub, Nat.reduceLT, Nat.reduceLeDiff, Int.reduceLE, Int.reduceLT, Int.reduceToNat, Int.reduceEq]) rfl rfl ?_
      simp only [go_sem, ↓reduceIte, Nat.reduceEqDiff, Nat.reduceMul, Nat.reduceAdd, Nat.reduceDiv, Nat.reduceSub, Nat.reduceLT, Nat.reduceLeDiff, Int.reduceLE, Int.reduceLT, Int.reduceToNat, Int.reduceEq]
      repeat (refine ⟨by (first | omega | (intro h1 h2; exact ⟨h1, h2⟩) | (intro h1; omega) | (intro h1; exact h1) | trivial), ?_⟩)
      exact hQ _ _ rfl
  · have e : (runes cs).getD i .undef = .undef := by
      rw [List.getD_eq_getElem?_getD, List.getElem?_eq_none (by rw [runes_len]; omega)]; rfl
    simp only [go_sem, ↓reduceIte, Nat.reduceEqDiff, Nat.reduceMul, Nat.reduceAdd, Nat.reduceDiv, Nat.reduceSub, Nat.reduceLT, Nat.reduceLeDiff, Int.reduceLE, Int.reduceLT, Int.reduceToNat, Int.reduceEq, n7_1, e, hR]
    refine ⟨fun hi => by omega, fun h => ?_⟩
    refine callK_1 _ (fun _ => cw22) (by simp only [go_sem, ↓reduceIte, Nat.reduceEqDiff, Nat.reduceMul, Nat.reduceAdd, Nat.reduceDiv, Nat.reduceSub, Nat.reduceLT, Nat.reduceLeDiff, Int.reduceLE, Int.reduceLT, Int.reduceToNat, Int.reduceEq]) rfl rfl ?_
    simp only [go_sem, ↓reduceIte, Nat.reduceEqDiff, Nat.reduceMul, Nat.reduceAdd, Nat.reduceDiv, Nat.reduceSub, Nat.reduceLT, Nat.reduceLeDiff, Int.reduceLE, Int.reduceLT, Int.reduceToNat, Int.reduceEq]
    repeat (refine ⟨by (first | omega | (intro h1 h2; exact ⟨h1, h2⟩) | (intro h1; omega) | (intro h1; exact h1) | trivial), ?_⟩)
    exact hQ _ _ rfl
theorem w7 (l : List Rec) (ts cs : List Int) (hl : ∀ r ∈ l, r.ok) (hn : l.length < 9223372036854775808) (hto : ∀ r ∈ l, r.to.length ≤ 35184372088832) (htn : ts.length < 9223372036854775808) (hcs : ∀ c ∈ cs, i32ok c) (hcn : cs.length < 9223372036854775808) (Q : Ex → Slots → LH → Prop) (hQ : ∀ σ H, Slots.get σ 6 = .c (.bool true) → Q .ret σ H) : rnC Try.prog b7 Q [(0, .c (.sl 8 (recs l))), (1, .c (.sl 1 (ts.map (CV.int .i64)))), (2, .c (.sl 1 (runes cs)))] [] := by
  unfold b7
  have hl' : ∀ r ∈ l.take 120, r.ok := fun r hr => hl r (List.mem_of_mem_take hr)
  have hto' : ∀ r ∈ l.take 120, r.to.length ≤ 35184372088832 := fun r hr => hto r (List.mem_of_mem_take hr)
  obtain ⟨hn1, hn2⟩ := take_len l 120
  have c14 : CW Try.prog 14 [.cv (.sl 8 (recs l)), .cv (.int .i64 120)] ⟨[.cv (.sl 8 (recs (l.take 120)))], []⟩ := (cw14 l 120 (by omega) hn hto).pubRes rfl
  simp only [go_sem, ↓reduceIte, Nat.reduceEqDiff, Nat.reduceMul, Nat.reduceAdd, Nat.reduceDiv, Nat.reduceSub, Nat.reduceLT, Nat.reduceLeDiff, Int.reduceLE, Int.reduceLT, Int.reduceToNat, Int.reduceEq]
  refine callK_1 _ (fun _ => c14) (by simp only [go_sem, ↓reduceIte, Nat.reduceEqDiff, Nat.reduceMul, Nat.reduceAdd, Nat.reduceDiv, Nat.reduceSub, Nat.reduceLT, Nat.reduceLeDiff, Int.reduceLE, Int.reduceLT, Int.reduceToNat, Int.reduceEq]) rfl rfl ?_
  simp only [go_sem, ↓reduceIte, Nat.reduceEqDiff, Nat.reduceMul, Nat.reduceAdd, Nat.reduceDiv, Nat.reduceSub, Nat.reduceLT, Nat.reduceLeDiff, Int.reduceLE, Int.reduceLT, Int.reduceToNat, Int.reduceEq]
  repeat (refine ⟨by (first | omega | (intro h1 h2; exact ⟨h1, h2⟩) | (intro h1; omega) | (intro h1; exact h1) | trivial), ?_⟩)
  refine callK_2 _ _ (fun _ => cw26 (l.take 120) hl' hto') (by simp only [go_sem, ↓reduceIte, Nat.reduceEqDiff, Nat.reduceMul, Nat.reduceAdd, Nat.reduceDiv, Nat.reduceSub, Nat.reduceLT, Nat.reduceLeDiff, Int.reduceLE, Int.reduceLT, Int.reduceToNat, Int.reduceEq]) rfl rfl ?_
  simp only [go_sem, ↓reduceIte, Nat.reduceEqDiff, Nat.reduceMul, Nat.reduceAdd, Nat.reduceDiv, Nat.reduceSub, Nat.reduceLT, Nat.reduceLeDiff, Int.reduceLE, Int.reduceLT, Int.reduceToNat, Int.reduceEq]
  repeat (refine ⟨by (first | omega | (intro h1 h2; exact ⟨h1, h2⟩) | (intro h1; omega) | (intro h1; exact h1) | trivial), ?_⟩)
  refine ⟨fun hne => ?_, fun he => ?_⟩
  · refine callK_1 _ (fun _ => cw22) (by simp only [go_sem, ↓reduceIte, Nat.reduceEqDiff, Nat.reduceMul, Nat.reduceAdd, Nat.reduceDiv, Nat.reduceSub, Nat.reduceLT, Nat.reduceLeDiff, Int.reduceLE, Int.reduceLT, Int.reduceToNat, Int.reduceEq]) rfl rfl ?_
    simp only [go_sem, ↓reduceIte, Nat.reduceEqDiff, Nat.reduceMul, Nat.reduceAdd, Nat.reduceDiv, Nat.reduceSub, Nat.reduceLT, Nat.reduceLeDiff, Int.reduceLE, Int.reduceLT, Int.reduceToNat, Int.reduceEq]
    repeat (refine ⟨by (first | omega | (intro h1 h2; exact ⟨h1, h2⟩) | (intro h1; omega) | (intro h1; exact h1) | trivial), ?_⟩)
    exact hQ _ _ rfl
  generalize hL : l.take 120 = L at *
  have c14' := cw14 L 120 (by omega) (by omega) hto'
  rw [List.take_of_length_le hn1] at c14'
  refine callK_O 8 (recs L) (fun _ => c14') (by simp only [go_sem, ↓reduceIte, Nat.reduceEqDiff, Nat.reduceMul, Nat.reduceAdd, Nat.reduceDiv, Nat.reduceSub, Nat.reduceLT, Nat.reduceLeDiff, Int.reduceLE, Int.reduceLT, Int.reduceToNat, Int.reduceEq]) rfl rfl ?_
  simp only [go_sem, ↓reduceIte, Nat.reduceEqDiff, Nat.reduceMul, Nat.reduceAdd, Nat.reduceDiv, Nat.reduceSub, Nat.reduceLT, Nat.reduceLeDiff, Int.reduceLE, Int.reduceLT, Int.reduceToNat, Int.reduceEq]
  repeat (refine ⟨by (first | omega | (intro h1 h2; exact ⟨h1, h2⟩) | (intro h1; omega) | (intro h1; exact h1) | trivial), ?_⟩)
  refine loopR.by (α := Nat × List Rec) (fun p => [(1, .c (.sl 1 (ts.map (CV.int .i64)))), (2, .c (.sl 1 (runes cs))), (7, .c (.sl 8 (recs L))), (10, .osl 1000010 0 L.length), (11, .c (.int .i64 p.1))]) (fun p => [(1000010, .row 8 (recs p.2))]) (fun p => 60 - p.1) (fun p => p.1 ≤ 60 ∧ L.Perm p.2) (0, L) ⟨Nat.zero_le _, List.Perm.refl _⟩ ?_ ?_
  · intro Y hY
    simp only [go_sem, ↓reduceIte, Nat.reduceEqDiff, Nat.reduceMul, Nat.reduceAdd, Nat.reduceDiv, Nat.reduceSub, Nat.reduceLT, Nat.reduceLeDiff, Int.reduceLE, Int.reduceLT, Int.reduceToNat, Int.reduceEq, n7_0]
    first | exact hY | exact ⟨by simp, hY⟩
  intro p hk Y hY
  obtain ⟨i, m⟩ := p
  obtain ⟨hk, hpm⟩ := hk
  simp only at hk hpm
  have hml : m.length = L.length := hpm.length_eq.symm
  unfold l7_0
  have hR : (recs m).length = L.length := by rw [recs_len]; exact hml
  rcases Nat.lt_or_ge i ts.length with hlt | hge
  · obtain ⟨x, e, hm⟩ := ints_at hlt
    simp only [go_sem, ↓reduceIte, Nat.reduceEqDiff, Nat.reduceMul, Nat.reduceAdd, Nat.reduceDiv, Nat.reduceSub, Nat.reduceLT, Nat.reduceLeDiff, Int.reduceLE, Int.reduceLT, Int.reduceToNat, Int.reduceEq, n7_0, e, hR]
    refine ⟨fun hc => ?_, fun hc => ?_⟩
    · have hL1 : 1 < L.length := by omega
      obtain ⟨a, ha, ha'⟩ := index_of (and_range x) (show 0 < L.length by omega)
      obtain ⟨b, hb, hb'⟩ := index_of (and_range (x.fdiv (2 ^ min 30 64))) (show 0 < L.length by omega)
      have ea : (recs m).getD a .undef = (m[a]'(by omega)).cv := recs_getD (by omega)
      have eb : (recs m).getD b .undef = (m[b]'(by omega)).cv := recs_getD (by omega)
      rw [ha', hb', Int.toNat_natCast, Int.toNat_natCast, ea, eb]
      refine ⟨by omega, by omega, by omega, by omega, by omega, by omega, by omega, rec_fields _, by omega, by omega, rec_fields _, by simp [recs_len, hml], ?_⟩
      rw [List.length_set, List.length_set, hR, succ64 hlt (by omega)]
      have hp2 : L.Perm ((m.set a (m[b]'(by omega))).set b (m[a]'(by omega))) := hpm.trans (List.set_set_perm (by omega) (by omega)).symm
      have := hY (i + 1, (m.set a (m[b]'(by omega))).set b (m[a]'(by omega))) ⟨by simp only; omega, hp2⟩ (by simp only; omega)
      rw [show recs ((m.set a (m[b]'(by omega))).set b (m[a]'(by omega))) = ((recs m).set a (m[b]'(by omega)).cv).set b (m[a]'(by omega)).cv from by simp [recs, List.map_set]] at this
      exact this
    · generalize hrow : recs m = W at *
      have hm' : ∀ r ∈ m, r.ok := fun r hr => hl' r (hpm.mem_iff.2 hr)
      have hto2 : ∀ r ∈ m, r.to.length ≤ 35184372088832 := fun r hr => hto' r (hpm.mem_iff.2 hr)
      have c26 := cw26 m hm' hto2
      obtain ⟨hz, hal⟩ := canon_perm hl' hpm he
      rw [hz] at c26
      have ht : List.take L.length W = W := List.take_of_length_le (by omega)
      refine callK_i ⟨[.cv (.int .i64 (canonP m).1), .cv (.int .i64 0)], []⟩ (fun _ => by rw [ht, ← hrow]; exact c26) ⟨by simp only [go_sem, ↓reduceIte, Nat.reduceEqDiff, Nat.reduceMul, Nat.reduceAdd, Nat.reduceDiv, Nat.reduceSub, Nat.reduceLT, Nat.reduceLeDiff, Int.reduceLE, Int.reduceLT, Int.reduceToNat, Int.reduceEq], .inr ⟨by simp [OC.scalar, CV.scalar], by simp⟩, ⟨by simp only [go_sem, ↓reduceIte, Nat.reduceEqDiff, Nat.reduceMul, Nat.reduceAdd, Nat.reduceDiv, Nat.reduceSub, Nat.reduceLT, Nat.reduceLeDiff, Int.reduceLE, Int.reduceLT, Int.reduceToNat, Int.reduceEq], by simp, by simp, by simp⟩, ?_⟩
      simp only [go_sem, ↓reduceIte, Nat.reduceEqDiff, Nat.reduceMul, Nat.reduceAdd, Nat.reduceDiv, Nat.reduceSub, Nat.reduceLT, Nat.reduceLeDiff, Int.reduceLE, Int.reduceLT, Int.reduceToNat, Int.reduceEq]
      rw [← hrow]
      exact w7t L m cs hpm hl' hto' hm' hto2 hn1 hal hcs hcn Q hQ _ rfl rfl rfl rfl
  · have e : (ts.map (CV.int .i64)).getD i .undef = .undef := by
      rw [List.getD_eq_getElem?_getD, List.getElem?_eq_none (by simpa using hge)]; rfl
    simp only [go_sem, ↓reduceIte, Nat.reduceEqDiff, Nat.reduceMul, Nat.reduceAdd, Nat.reduceDiv, Nat.reduceSub, Nat.reduceLT, Nat.reduceLeDiff, Int.reduceLE, Int.reduceLT, Int.reduceToNat, Int.reduceEq, n7_0, e, hR]
    refine ⟨fun hc => by omega, fun hc => ?_⟩
    generalize hrow : recs m = W at *
    have hm' : ∀ r ∈ m, r.ok := fun r hr => hl' r (hpm.mem_iff.2 hr)
    have hto2 : ∀ r ∈ m, r.to.length ≤ 35184372088832 := fun r hr => hto' r (hpm.mem_iff.2 hr)
    have c26 := cw26 m hm' hto2
    obtain ⟨hz, hal⟩ := canon_perm hl' hpm he
    rw [hz] at c26
    have ht : List.take L.length W = W := List.take_of_length_le (by omega)
    refine callK_i ⟨[.cv (.int .i64 (canonP m).1), .cv (.int .i64 0)], []⟩ (fun _ => by rw [ht, ← hrow]; exact c26) ⟨by simp only [go_sem, ↓reduceIte, Nat.reduceEqDiff, Nat.reduceMul, Nat.reduceAdd, Nat.reduceDiv, Nat.reduceSub, Nat.reduceLT, Nat.reduceLeDiff, Int.reduceLE, Int.reduceLT, Int.reduceToNat, Int.reduceEq], .inr ⟨by simp [OC.scalar, CV.scalar], by simp⟩, ⟨by simp only [go_sem, ↓reduceIte, Nat.reduceEqDiff, Nat.reduceMul, Nat.reduceAdd, Nat.reduceDiv, Nat.reduceSub, Nat.reduceLT, Nat.reduceLeDiff, Int.reduceLE, Int.reduceLT, Int.reduceToNat, Int.reduceEq], by simp, by simp, by simp⟩, ?_⟩
    simp only [go_sem, ↓reduceIte, Nat.reduceEqDiff, Nat.reduceMul, Nat.reduceAdd, Nat.reduceDiv, Nat.reduceSub, Nat.reduceLT, Nat.reduceLeDiff, Int.reduceLE, Int.reduceLT, Int.reduceToNat, Int.reduceEq]
    rw [← hrow]
    exact w7t L m cs hpm hl' hto' hm' hto2 hn1 hal hcs hcn Q hQ _ rfl rfl rfl rfl
theorem cw7 (l : List Rec) (ts cs : List Int) (hl : ∀ r ∈ l, r.ok) (hn : l.length < 9223372036854775808) (hto : ∀ r ∈ l, r.to.length ≤ 35184372088832) (htn : ts.length < 9223372036854775808) (hcs : ∀ c ∈ cs, i32ok c) (hcn : cs.length < 9223372036854775808) : CW Try.prog 7 [.cv (.sl 8 (recs l)), .cv (.sl 1 (ts.map (CV.int .i64))), .cv (.sl 1 (runes cs))] ⟨[.cv (.bool true)], []⟩ :=
  top7 rfl rfl [] trivial (w7 l ts cs hl hn hto htn hcs hcn _ fun σ H h => ret1 rfl h)
end Go.Proofs.Ytcpdnpaedkcebaa.V
