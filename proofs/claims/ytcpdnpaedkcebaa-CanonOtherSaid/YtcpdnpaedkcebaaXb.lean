/- Contracts: the reference's readings of a table. -/
import Derived.Test.YtcpdnpaedkcebaaXa
import Derived.Test.YtcpdnpaedkcebaaWb
namespace Go.Proofs.Ytcpdnpaedkcebaa.V
open Go Go.RowKit
set_option linter.unusedVariables false
set_option linter.unusedSimpArgs false
set_option maxRecDepth 100000
/- endonym/endonymref6.Find -/
def l44_0 : IC := (.seq (.seq (.reg [⟨(some 14), 0, none, .mv (.t 7)⟩,
  ⟨(some 15), 0, none, .mv (.t 0)⟩,
  ⟨(some 16), 0, none, .len false (.t 15)⟩,
  ⟨(some 17), 0, none, .bin .lss (.t 14) (.t 16)⟩]) (.cond (.t 17) .skip (.exit 0))) (.seq (.block 1 (.seq (.reg [⟨(some 20), 0, none, .mv (.t 0)⟩,
  ⟨(some 21), 0, none, .mv (.t 7)⟩,
  ⟨(some 22), 0, none, .ia (.t 20) (.t 21) 8⟩,
  ⟨(some 23), 0, none, .fa (.t 22) 0⟩,
  ⟨(some 24), 0, none, .ld (.t 23) none⟩,
  ⟨(some 25), 1, none, .call (.c (.fn 67)) [((.t 24), .plain)]⟩,
  ⟨(some 26), 0, none, .mv (.t 1)⟩,
  ⟨(some 27), 0, none, .bin .eql (.t 25) (.t 26)⟩,
  ⟨(some 28), 0, none, .mv (.t 27)⟩,
  ⟨(some 29), 0, (some (28, true)), .mv (.t 0)⟩,
  ⟨(some 30), 0, (some (28, true)), .mv (.t 7)⟩,
  ⟨(some 31), 0, (some (28, true)), .ia (.t 29) (.t 30) 8⟩,
  ⟨(some 32), 0, (some (28, true)), .ld (.t 31) (some 8)⟩,
  ⟨(some 33), 0, (some (28, true)), .mv (.t 2)⟩,
  ⟨(some 34), 0, (some (28, true)), .conv .i64 (.t 33)⟩,
  ⟨(some 35), 11, (some (28, true)), .call (.c (.fn 68)) [((.t 32), .plain), ((.t 34), .plain)]⟩,
  ⟨(some 36), 0, none, .pick (.t 28) (.t 35) (.c (.bool false))⟩]) (.cond (.t 36) (.seq (.reg [⟨(some 37), 0, none, .mv (.t 7)⟩,
  ⟨(some 6), 0, none, .mv (.t 37)⟩]) .ret) .skip))) (.reg [⟨(some 18), 0, none, .mv (.t 7)⟩,
  ⟨(some 19), 0, none, .bin .add (.t 18) (.c (.int .i64 1))⟩,
  ⟨(some 7), 0, none, .mv (.t 19)⟩])))
def n44_0 : Norm := ⟨[(0, .plain), (1, .plain), (2, .plain), (7, .plain)], []⟩
def b44 : IC := (.seq (.reg [⟨(some 6), 0, none, .mv (.c (.int .i64 0))⟩]) (.seq (.seq (.reg [⟨(some 8), 0, none, .mv (.t 1)⟩,
  ⟨(some 9), 0, none, .bin .eql (.t 8) (.c (.int .i64 10))⟩,
  ⟨(some 10), 0, none, .mv (.t 9)⟩,
  ⟨(some 11), 0, (some (10, false)), .mv (.t 1)⟩,
  ⟨(some 12), 0, (some (10, false)), .bin .eql (.t 11) (.c (.int .i64 0))⟩,
  ⟨(some 13), 0, none, .pick (.t 10) (.c (.bool true)) (.t 12)⟩]) (.cond (.t 13) (.seq (.reg [⟨(some 6), 0, none, .mv (.c (.int .i64 (-1)))⟩]) .ret) .skip)) (.seq (.seq (.reg [⟨(some 7), 0, none, .mv (.c (.int .i64 0))⟩]) (.block 0 (.loop n44_0 l44_0))) (.seq (.reg [⟨(some 6), 0, none, .mv (.c (.int .i64 (-1)))⟩]) .ret))))
def rs44 : List (Nat × Option Nat × Mode) := [(6, none, .plain)]
theorem chk44 : chkC Try.prog Try.f44.ntmps b44 (Try.f44.body.getD .skip) = true := by decide +kernel
theorem top44 {args : List Arg} {out : Out} (ha : args.length.ble Try.f44.ntmps = true) (h8 : args.length.ble 8 = true) (mss : List (List (Option Nat))) (hb : backOK args out.back)
    (hw : rnC Try.prog b44 (topQ rs44 args mss out) (slotsOf (argsAV argBase args 0) 0) (argsOb argBase args 0)) : CW Try.prog 44 args out :=
  CW.of Try.func44 rs44 mss (by decide +kernel) (by decide +kernel) (by decide +kernel) ha h8 chk44 hb hw
/- endonym/endonymref7.Open -/
def b21 : IC := (.seq (.reg [⟨(some 4), 0, none, .mv (.c .nilsl)⟩]) (.seq (.seq (.reg [⟨(some 8), 0, none, .mv (.t 1)⟩,
  ⟨(some 9), 1, none, .call (.c (.fn 43)) [((.t 8), .plain)]⟩]) (.cond (.t 9) (.seq (.reg [⟨(some 10), 0, none, .mv (.t 1)⟩,
  ⟨(some 11), 0, none, .bin .sub (.t 10) (.c (.int .i32 44032))⟩,
  ⟨(some 5), 0, none, .mv (.t 11)⟩]) (.seq (.seq (.reg [⟨(some 12), 0, none, .mv (.t 5)⟩,
  ⟨(some 13), 0, none, .bin .rem (.t 12) (.c (.int .i32 28))⟩,
  ⟨(some 14), 0, none, .bin .eql (.t 13) (.c (.int .i32 0))⟩]) (.cond (.t 14) (.seq (.reg [⟨(some 15), 0, none, .mv (.t 5)⟩,
  ⟨(some 16), 0, none, .bin .quo (.t 15) (.c (.int .i32 588))⟩,
  ⟨(some 17), 0, none, .bin .add (.c (.int .i32 4352)) (.t 16)⟩,
  ⟨(some 18), 0, none, .mv (.t 5)⟩,
  ⟨(some 19), 0, none, .bin .quo (.t 18) (.c (.int .i32 28))⟩,
  ⟨(some 20), 0, none, .bin .rem (.t 19) (.c (.int .i32 21))⟩,
  ⟨(some 21), 0, none, .bin .add (.c (.int .i32 4449)) (.t 20)⟩,
  ⟨(some 22), 11, none, .bsl 1 [(.t 17), (.t 21)]⟩,
  ⟨(some 4), 0, none, .mv (.t 22)⟩]) .ret) .skip)) (.seq (.reg [⟨(some 23), 0, none, .mv (.t 1)⟩,
  ⟨(some 24), 0, none, .mv (.t 5)⟩,
  ⟨(some 25), 0, none, .bin .rem (.t 24) (.c (.int .i32 28))⟩,
  ⟨(some 26), 0, none, .bin .sub (.t 23) (.t 25)⟩,
  ⟨(some 27), 0, none, .mv (.t 5)⟩,
  ⟨(some 28), 0, none, .bin .rem (.t 27) (.c (.int .i32 28))⟩,
  ⟨(some 29), 0, none, .bin .add (.c (.int .i32 4519)) (.t 28)⟩,
  ⟨(some 30), 12, none, .bsl 1 [(.t 26), (.t 29)]⟩,
  ⟨(some 4), 0, none, .mv (.t 30)⟩]) .ret))) .skip)) (.seq (.reg [⟨(some 31), 0, none, .mv (.t 0)⟩,
  ⟨(some 32), 0, none, .mv (.t 1)⟩,
  ⟨(some 33), 13, none, .call (.c (.fn 44)) [((.t 31), .view 8), ((.c (.int .i64 3)), .plain), ((.t 32), .plain)]⟩,
  ⟨(some 6), 0, none, .mv (.t 33)⟩]) (.seq (.seq (.reg [⟨(some 34), 0, none, .mv (.t 6)⟩,
  ⟨(some 35), 0, none, .bin .lss (.t 34) (.c (.int .i64 0))⟩]) (.cond (.t 35) (.seq (.reg [⟨(some 4), 0, none, .mv (.c .nilsl)⟩]) .ret) .skip)) (.seq (.reg [⟨(some 7), 0, none, .mv (.c .nilsl)⟩]) (.seq (.reg [⟨(some 36), 0, none, .mv (.t 7)⟩,
  ⟨(some 37), 0, none, .mv (.t 0)⟩,
  ⟨(some 38), 0, none, .mv (.t 6)⟩,
  ⟨(some 39), 0, none, .ia (.t 37) (.t 38) 8⟩,
  ⟨(some 40), 0, none, .fa (.t 39) 4⟩,
  ⟨(some 41), 0, none, .ld (.t 40) none⟩,
  ⟨(some 42), 23, none, .app (.t 36) (.t 41) 1 4 false⟩,
  ⟨(some 4), 0, none, .mv (.t 42)⟩]) .ret))))))
def rs21 : List (Nat × Option Nat × Mode) := [(4, none, .move 1)]
theorem chk21 : chkC Try.prog Try.f21.ntmps b21 (Try.f21.body.getD .skip) = true := by decide +kernel
theorem top21 {args : List Arg} {out : Out} (ha : args.length.ble Try.f21.ntmps = true) (h8 : args.length.ble 8 = true) (mss : List (List (Option Nat))) (hb : backOK args out.back)
    (hw : rnC Try.prog b21 (topQ rs21 args mss out) (slotsOf (argsAV argBase args 0) 0) (argsOb argBase args 0)) : CW Try.prog 21 args out :=
  CW.of Try.func21 rs21 mss (by decide +kernel) (by decide +kernel) (by decide +kernel) ha h8 chk21 hb hw
/- endonym/endonymref7.Class -/
def b19 : IC := (.seq (.reg [⟨(some 4), 0, none, .mv (.c (.int .i64 0))⟩]) (.seq (.reg [⟨(some 6), 0, none, .mv (.t 0)⟩,
  ⟨(some 7), 0, none, .mv (.t 1)⟩,
  ⟨(some 8), 1, none, .call (.c (.fn 44)) [((.t 6), .view 8), ((.c (.int .i64 2)), .plain), ((.t 7), .plain)]⟩,
  ⟨(some 5), 0, none, .mv (.t 8)⟩]) (.seq (.seq (.reg [⟨(some 9), 0, none, .mv (.t 5)⟩,
  ⟨(some 10), 0, none, .bin .lss (.t 9) (.c (.int .i64 0))⟩]) (.cond (.t 10) (.seq (.reg [⟨(some 4), 0, none, .mv (.c (.int .i64 0))⟩]) .ret) .skip)) (.seq (.reg [⟨(some 11), 0, none, .mv (.t 0)⟩,
  ⟨(some 12), 0, none, .mv (.t 5)⟩,
  ⟨(some 13), 0, none, .ia (.t 11) (.t 12) 8⟩,
  ⟨(some 14), 0, none, .fa (.t 13) 3⟩,
  ⟨(some 15), 0, none, .ld (.t 14) none⟩,
  ⟨(some 4), 0, none, .mv (.t 15)⟩]) .ret))))
def rs19 : List (Nat × Option Nat × Mode) := [(4, none, .plain)]
theorem chk19 : chkC Try.prog Try.f19.ntmps b19 (Try.f19.body.getD .skip) = true := by decide +kernel
theorem top19 {args : List Arg} {out : Out} (ha : args.length.ble Try.f19.ntmps = true) (h8 : args.length.ble 8 = true) (mss : List (List (Option Nat))) (hb : backOK args out.back)
    (hw : rnC Try.prog b19 (topQ rs19 args mss out) (slotsOf (argsAV argBase args 0) 0) (argsOb argBase args 0)) : CW Try.prog 19 args out :=
  CW.of Try.func19 rs19 mss (by decide +kernel) (by decide +kernel) (by decide +kernel) ha h8 chk19 hb hw
/- endonym/endonymref7.Primary -/
def b17 : IC := (.seq (.reg [⟨(some 4), 0, none, .mv (.c (.int .i32 0))⟩,
  ⟨(some 5), 0, none, .mv (.c (.int .i32 0))⟩,
  ⟨(some 6), 0, none, .mv (.c (.bool false))⟩]) (.seq (.seq (.reg [⟨(some 9), 0, none, .mv (.t 1)⟩,
  ⟨(some 10), 1, none, .call (.c (.fn 43)) [((.t 9), .plain)]⟩]) (.cond (.t 10) (.seq (.reg [⟨(some 11), 0, none, .mv (.t 0)⟩,
  ⟨(some 12), 0, none, .mv (.t 1)⟩,
  ⟨(some 13), 11, none, .call (.c (.fn 21)) [((.t 11), .view 8), ((.t 12), .plain)]⟩,
  ⟨(some 7), 0, none, .mv (.t 13)⟩]) (.seq (.draw (.take 0 ⟨(some 14), 0, none, .mv (.t 7)⟩ (.take 1 ⟨(some 15), 0, none, .ia (.t 14) (.c (.int .i64 0)) 1⟩ (.take 2 ⟨(some 16), 0, none, .ld (.t 15) none⟩ (.take 3 ⟨(some 17), 0, none, .mv (.t 7)⟩ (.take 4 ⟨(some 18), 0, none, .ia (.t 17) (.c (.int .i64 1)) 1⟩ (.take 5 ⟨(some 19), 0, none, .ld (.t 18) none⟩ (.take 6 ⟨(some 4), 0, none, .mv (.t 16)⟩ (.take 7 ⟨(some 5), 0, none, .mv (.t 19)⟩ (.take 8 ⟨(some 6), 0, none, .mv (.c (.bool true))⟩ .done)))))))))) .ret)) .skip)) (.seq (.reg [⟨(some 20), 0, none, .mv (.t 0)⟩,
  ⟨(some 21), 0, none, .mv (.t 1)⟩,
  ⟨(some 22), 21, none, .call (.c (.fn 44)) [((.t 20), .view 8), ((.c (.int .i64 3)), .plain), ((.t 21), .plain)]⟩,
  ⟨(some 8), 0, none, .mv (.t 22)⟩]) (.seq (.seq (.reg [⟨(some 23), 0, none, .mv (.t 8)⟩,
  ⟨(some 24), 0, none, .bin .lss (.t 23) (.c (.int .i64 0))⟩,
  ⟨(some 25), 0, none, .mv (.t 24)⟩,
  ⟨(some 26), 0, (some (25, false)), .mv (.t 0)⟩,
  ⟨(some 27), 0, (some (25, false)), .mv (.t 8)⟩,
  ⟨(some 28), 0, (some (25, false)), .ia (.t 26) (.t 27) 8⟩,
  ⟨(some 29), 0, (some (25, false)), .fa (.t 28) 0⟩,
  ⟨(some 30), 0, (some (25, false)), .ld (.t 29) none⟩,
  ⟨(some 31), 0, (some (25, false)), .bin .neq (.t 30) (.c (.int .i64 7))⟩,
  ⟨(some 32), 0, none, .pick (.t 25) (.c (.bool true)) (.t 31)⟩,
  ⟨(some 33), 0, none, .mv (.t 32)⟩,
  ⟨(some 34), 0, (some (33, false)), .mv (.t 0)⟩,
  ⟨(some 35), 0, (some (33, false)), .mv (.t 8)⟩,
  ⟨(some 36), 0, (some (33, false)), .ia (.t 34) (.t 35) 8⟩,
  ⟨(some 37), 0, (some (33, false)), .fa (.t 36) 4⟩,
  ⟨(some 38), 0, (some (33, false)), .ld (.t 37) none⟩,
  ⟨(some 39), 0, (some (33, false)), .len false (.t 38)⟩,
  ⟨(some 40), 0, (some (33, false)), .bin .neq (.t 39) (.c (.int .i64 2))⟩,
  ⟨(some 41), 0, none, .pick (.t 33) (.c (.bool true)) (.t 40)⟩]) (.cond (.t 41) (.seq (.reg [⟨(some 4), 0, none, .mv (.c (.int .i32 0))⟩,
  ⟨(some 5), 0, none, .mv (.c (.int .i32 0))⟩,
  ⟨(some 6), 0, none, .mv (.c (.bool false))⟩]) .ret) .skip)) (.seq (.draw (.take 0 ⟨(some 42), 0, none, .mv (.t 0)⟩ (.take 1 ⟨(some 43), 0, none, .mv (.t 8)⟩ (.take 2 ⟨(some 44), 0, none, .ia (.t 42) (.t 43) 8⟩ (.take 3 ⟨(some 45), 0, none, .fa (.t 44) 4⟩ (.take 4 ⟨(some 46), 0, none, .ld (.t 45) none⟩ (.take 5 ⟨(some 47), 0, none, .ia (.t 46) (.c (.int .i64 0)) 1⟩ (.take 6 ⟨(some 48), 0, none, .ld (.t 47) none⟩ (.take 7 ⟨(some 49), 0, none, .mv (.t 0)⟩ (.take 8 ⟨(some 50), 0, none, .mv (.t 8)⟩ (.take 9 ⟨(some 51), 0, none, .ia (.t 49) (.t 50) 8⟩ (.take 10 ⟨(some 52), 0, none, .fa (.t 51) 4⟩ (.take 11 ⟨(some 53), 0, none, .ld (.t 52) none⟩ (.take 12 ⟨(some 54), 0, none, .ia (.t 53) (.c (.int .i64 1)) 1⟩ (.take 13 ⟨(some 55), 0, none, .ld (.t 54) none⟩ (.take 14 ⟨(some 4), 0, none, .mv (.t 48)⟩ (.take 15 ⟨(some 5), 0, none, .mv (.t 55)⟩ (.take 16 ⟨(some 6), 0, none, .mv (.c (.bool true))⟩ .done)))))))))))))))))) .ret)))))
def rs17 : List (Nat × Option Nat × Mode) := [(4, none, .plain), (5, none, .plain), (6, none, .plain)]
theorem chk17 : chkC Try.prog Try.f17.ntmps b17 (Try.f17.body.getD .skip) = true := by decide +kernel
theorem top17 {args : List Arg} {out : Out} (ha : args.length.ble Try.f17.ntmps = true) (h8 : args.length.ble 8 = true) (mss : List (List (Option Nat))) (hb : backOK args out.back)
    (hw : rnC Try.prog b17 (topQ rs17 args mss out) (slotsOf (argsAV argBase args 0) 0) (argsOb argBase args 0)) : CW Try.prog 17 args out :=
  CW.of Try.func17 rs17 mss (by decide +kernel) (by decide +kernel) (by decide +kernel) ha h8 chk17 hb hw

theorem speaks_eq {r : Rec} {f c : Int} (hr : r.ok) (hf : 1 ≤ f ∧ f ≤ 9) (h : famK r.kind = f) : speaksF r c = speaksR r c := by
  have h15 : ¬ r.kind = 15 := fun e => by rw [e] at h; simp [famK] at h; omega
  obtain ⟨h1, h2, h3, h4, h5⟩ := hr
  unfold i64ok at h1 h2 h3 h4
  unfold speaksF speaksR stepR
  by_cases hs : ((c < r.lo ∨ r.hi < c) ∨ c < 0) ∨ 1114111 < c
  · rw [if_pos hs]
    simp; omega
  · rw [if_neg hs]
    by_cases h4' : r.kind = 4
    · simp only [h4', if_true]
      by_cases hn : r.n < 0
      · rw [if_pos hn]; simp; omega
      · rw [if_neg hn]
        rw [Bool.eq_iff_iff]; simp; omega
    · simp only [h4', if_false]
      have e1 : IntKind.u64.wrap 1 = 1 := by rw [wrap_u64]; decide
      rw [e1, Int.tmod_one, Bool.eq_iff_iff]; simp; omega
theorem w44 (l : List Rec) (f c : Int) (hf : 1 ≤ f ∧ f ≤ 9) (hl : ∀ r ∈ l, r.ok) (hn : l.length < 9223372036854775808) (hc : i32ok c) (Q : Ex → Slots → LH → Prop) (hQ : ∀ σ H, Slots.get σ 6 = .c (.int .i64 (find l f c)) → Q .ret σ H) : rnC Try.prog b44 Q [(0, .c (.sl 8 (recs l))), (1, .c (.int .i64 f)), (2, .c (.int .i32 c))] [] := by
  unfold b44
  have e0 : find l f c = findR f c l 0 := by unfold find; rw [if_neg (by omega)]
  rw [e0] at hQ
  simp only [go_sem, ↓reduceIte, Nat.reduceEqDiff, Nat.reduceMul, Nat.reduceAdd, Nat.reduceDiv, Nat.reduceSub, Nat.reduceLT, Nat.reduceLeDiff, Int.reduceLE, Int.reduceLT, Int.reduceToNat, Int.reduceEq]
  refine ⟨fun h => ?_, fun h => ?_⟩
  · omega
  refine loopR.by (α := Nat) (fun i => [(0, .c (.sl 8 (recs l))), (1, .c (.int .i64 f)), (2, .c (.int .i32 c)), (7, .c (.int .i64 i))]) (fun i => []) (fun i => l.length - i) (fun i => i ≤ l.length ∧ (findR f c (l.drop i) i = findR f c l 0)) 0 ⟨Nat.zero_le _, rfl⟩ ?_ ?_
  · intro Y hY
    simp only [go_sem, ↓reduceIte, Nat.reduceEqDiff, Nat.reduceMul, Nat.reduceAdd, Nat.reduceDiv, Nat.reduceSub, Nat.reduceLT, Nat.reduceLeDiff, Int.reduceLE, Int.reduceLT, Int.reduceToNat, Int.reduceEq, n44_0]
    exact hY
  intro i hk Y hY
  unfold l44_0
  rcases Nat.lt_or_ge i (l.length) with hlt | hge
  · obtain ⟨r, e, hm, hd⟩ := recs_at hlt
    have hf' := hk.2
    rw [hd, findR] at hf'
    simp only [go_sem, ↓reduceIte, Nat.reduceEqDiff, Nat.reduceMul, Nat.reduceAdd, Nat.reduceDiv, Nat.reduceSub, Nat.reduceLT, Nat.reduceLeDiff, Int.reduceLE, Int.reduceLT, Int.reduceToNat, Int.reduceEq, n44_0, e]
    refine ⟨fun _ => ⟨by omega, ?_⟩, fun h => by omega⟩
    refine callK_1 _ (fun _ => cw67 _) (by simp only [go_sem, ↓reduceIte, Nat.reduceEqDiff, Nat.reduceMul, Nat.reduceAdd, Nat.reduceDiv, Nat.reduceSub, Nat.reduceLT, Nat.reduceLeDiff, Int.reduceLE, Int.reduceLT, Int.reduceToNat, Int.reduceEq]) rfl rfl ?_
    simp only [go_sem, ↓reduceIte, Nat.reduceEqDiff, Nat.reduceMul, Nat.reduceAdd, Nat.reduceDiv, Nat.reduceSub, Nat.reduceLT, Nat.reduceLeDiff, Int.reduceLE, Int.reduceLT, Int.reduceToNat, Int.reduceEq, e]
    repeat (refine ⟨by (first | omega | (intro h1 h2; exact ⟨h1, h2⟩) | (intro h1; omega) | (intro h1; exact h1) | trivial), ?_⟩)
    rw [i32_64 hc]
    refine callK_1 _ (fun _ => cw68 r _ (hl _ hm)) (by simp only [go_sem, ↓reduceIte, Nat.reduceEqDiff, Nat.reduceMul, Nat.reduceAdd, Nat.reduceDiv, Nat.reduceSub, Nat.reduceLT, Nat.reduceLeDiff, Int.reduceLE, Int.reduceLT, Int.reduceToNat, Int.reduceEq]) rfl rfl ?_
    simp only [go_sem, ↓reduceIte, Nat.reduceEqDiff, Nat.reduceMul, Nat.reduceAdd, Nat.reduceDiv, Nat.reduceSub, Nat.reduceLT, Nat.reduceLeDiff, Int.reduceLE, Int.reduceLT, Int.reduceToNat, Int.reduceEq]
    repeat (refine ⟨by (first | omega | (intro h1 h2; exact ⟨h1, h2⟩) | (intro h1; omega) | (intro h1; exact h1) | trivial), ?_⟩)
    rw [succ64 hlt hn]
    refine ⟨fun h1 => hQ _ _ ?_, fun h1 => hY (i + 1) ⟨hlt, ?_⟩ (by omega)⟩
    · simp only [go_sem, ↓reduceIte, Nat.reduceEqDiff, Nat.reduceMul, Nat.reduceAdd, Nat.reduceDiv, Nat.reduceSub, Nat.reduceLT, Nat.reduceLeDiff, Int.reduceLE, Int.reduceLT, Int.reduceToNat, Int.reduceEq]
      rw [← hf', if_pos ⟨h1.1, by rw [← speaks_eq (hl _ hm) hf h1.1]; exact h1.2⟩]
    · rw [← hf', if_neg]
      · simp
      · rintro ⟨h2, h3⟩
        rw [← speaks_eq (hl _ hm) hf h2] at h3
        rcases h1 with h1 | h1
        · exact h1 h2
        · rw [h3] at h1; cases h1
  · simp only [go_sem, ↓reduceIte, Nat.reduceEqDiff, Nat.reduceMul, Nat.reduceAdd, Nat.reduceDiv, Nat.reduceSub, Nat.reduceLT, Nat.reduceLeDiff, Int.reduceLE, Int.reduceLT, Int.reduceToNat, Int.reduceEq, n44_0]
    refine ⟨fun h => by omega, fun _ => hQ _ _ ?_⟩
    have : i = l.length := by omega
    subst this
    have hf' := hk.2
    rw [List.drop_length, findR] at hf'
    simp only [go_sem, ↓reduceIte, Nat.reduceEqDiff, Nat.reduceMul, Nat.reduceAdd, Nat.reduceDiv, Nat.reduceSub, Nat.reduceLT, Nat.reduceLeDiff, Int.reduceLE, Int.reduceLT, Int.reduceToNat, Int.reduceEq, ← hf']
theorem cw44 (l : List Rec) (f c : Int) (hf : 1 ≤ f ∧ f ≤ 9) (hl : ∀ r ∈ l, r.ok) (hn : l.length < 9223372036854775808) (hc : i32ok c) : CW Try.prog 44 [.cv (.sl 8 (recs l)), .cv (.int .i64 f), .cv (.int .i32 c)] ⟨[.cv (.int .i64 (find l f c))], []⟩ :=
  top44 rfl rfl [] trivial (w44 l f c hf hl hn hc _ fun σ H h => ret1 rfl h)
theorem partA_ref {c : Int} (h : syl c = true) : IntKind.i32.wrap (c - 44032) = c - 44032 := by
  unfold syl at h; simp at h; rw [wrap_i32]; omega
theorem w21 (l : List Rec) (c : Int) (hl : ∀ r ∈ l, r.ok) (hn : l.length < 9223372036854775808) (hto : ∀ r ∈ l, r.to.length ≤ 35184372088832) (hc : i32ok c) (Q : Ex → Slots → LH → Prop) (hQ : ∀ σ H, OwnAt 1 (runes (openL l c)) (Slots.get σ 4) H → Q .ret σ H) : rnC Try.prog b21 Q [(0, .c (.sl 8 (recs l))), (1, .c (.int .i32 c))] [] := by
  unfold b21
  simp only [go_sem, ↓reduceIte, Nat.reduceEqDiff, Nat.reduceMul, Nat.reduceAdd, Nat.reduceDiv, Nat.reduceSub, Nat.reduceLT, Nat.reduceLeDiff, Int.reduceLE, Int.reduceLT, Int.reduceToNat, Int.reduceEq]
  refine callK_1 _ (fun _ => cw43 _) (by simp only [go_sem, ↓reduceIte, Nat.reduceEqDiff, Nat.reduceMul, Nat.reduceAdd, Nat.reduceDiv, Nat.reduceSub, Nat.reduceLT, Nat.reduceLeDiff, Int.reduceLE, Int.reduceLT, Int.reduceToNat, Int.reduceEq]) rfl rfl ?_
  simp only [go_sem, ↓reduceIte, Nat.reduceEqDiff, Nat.reduceMul, Nat.reduceAdd, Nat.reduceDiv, Nat.reduceSub, Nat.reduceLT, Nat.reduceLeDiff, Int.reduceLE, Int.reduceLT, Int.reduceToNat, Int.reduceEq]
  repeat (refine ⟨by (first | omega | (intro h1 h2; exact ⟨h1, h2⟩) | (intro h1; omega) | (intro h1; exact h1) | trivial), ?_⟩)
  refine ⟨fun hs => ?_, fun hs => ?_⟩
  · have h0 := partA_ref hs
    have hb : 44032 ≤ c ∧ c ≤ 55203 := by unfold syl at hs; simpa using hs
    have ho : openL l c = [partA c, partB c] := by simp [openL, hs]
    rw [ho] at hQ
    rw [h0]
    refine ⟨fun h1 => ?_, fun h1 => ?_⟩
    · refine hQ _ _ (.inr ⟨704, ?_, ?_⟩)
      · rfl
      · have h2 : ¬ (0 < (c - 44032).tmod 28) := by omega
        have e1 : (c - 44032).tdiv 588 = ((c - 44032).tdiv 28).tdiv 21 := by
          have q : (c - 44032).tdiv 28 = (c - 44032) / 28 := Int.tdiv_eq_ediv_of_nonneg (by omega)
          rw [q, Int.tdiv_eq_ediv_of_nonneg (by omega), Int.tdiv_eq_ediv_of_nonneg (by omega)]; omega
        have e2 : IntKind.i32.wrap ((c - 44032).tdiv 588) = (c - 44032).tdiv 588 := by
          rw [Int.tdiv_eq_ediv_of_nonneg (by omega), wrap_i32]; omega
        have e3 : IntKind.i32.wrap ((c - 44032).tdiv 28) = (c - 44032).tdiv 28 := by
          rw [Int.tdiv_eq_ediv_of_nonneg (by omega), wrap_i32]; omega
        simp only [go_sem, ↓reduceIte, Nat.reduceEqDiff, Nat.reduceMul, Nat.reduceAdd, Nat.reduceDiv, Nat.reduceSub, Nat.reduceLT, Nat.reduceLeDiff, Int.reduceLE, Int.reduceLT, Int.reduceToNat, Int.reduceEq, runes, partA, partB, h0, if_neg h2, e2, e3, e1]
    · refine hQ _ _ (.inr ⟨768, rfl, ?_⟩)
      have h2 : 0 < (c - 44032).tmod 28 := by
        rw [Int.tmod_eq_emod_of_nonneg (by omega)] at h1 ⊢
        omega
      simp only [go_sem, ↓reduceIte, Nat.reduceEqDiff, Nat.reduceMul, Nat.reduceAdd, Nat.reduceDiv, Nat.reduceSub, Nat.reduceLT, Nat.reduceLeDiff, Int.reduceLE, Int.reduceLT, Int.reduceToNat, Int.reduceEq, runes, partA, partB, h0, if_pos h2]
  · refine callK_1 _ (fun _ => cw44 l _ _ (by decide) hl hn hc) (by simp only [go_sem, ↓reduceIte, Nat.reduceEqDiff, Nat.reduceMul, Nat.reduceAdd, Nat.reduceDiv, Nat.reduceSub, Nat.reduceLT, Nat.reduceLeDiff, Int.reduceLE, Int.reduceLT, Int.reduceToNat, Int.reduceEq]) rfl rfl ?_
    rcases find_cases l 3 c with ⟨h1, h2⟩ | ⟨k, r, h1, h2, h3, h4, h5⟩
    · simp only [go_sem, ↓reduceIte, Nat.reduceEqDiff, Nat.reduceMul, Nat.reduceAdd, Nat.reduceDiv, Nat.reduceSub, Nat.reduceLT, Nat.reduceLeDiff, Int.reduceLE, Int.reduceLT, Int.reduceToNat, Int.reduceEq, h1]
      exact hQ _ _ (.inl ⟨rfl, by simp [openL, hs, h2, runes]⟩)
    · simp only [go_sem, ↓reduceIte, Nat.reduceEqDiff, Nat.reduceMul, Nat.reduceAdd, Nat.reduceDiv, Nat.reduceSub, Nat.reduceLT, Nat.reduceLeDiff, Int.reduceLE, Int.reduceLT, Int.reduceToNat, Int.reduceEq, h1, h3]
      have ho : openL l c = r.to := by simp [openL, hs, h5]
      have := hto r h4
      rw [ho] at hQ
      exact ⟨fun h => by omega, fun h => ⟨by omega, by omega, hQ _ _ (own_at rfl (by simp [runes]) rfl)⟩⟩
theorem cw21 (l : List Rec) (c : Int) (hl : ∀ r ∈ l, r.ok) (hn : l.length < 9223372036854775808) (hto : ∀ r ∈ l, r.to.length ≤ 35184372088832) (hc : i32ok c) : CW Try.prog 21 [.cv (.sl 8 (recs l)), .cv (.int .i32 c)] ⟨[.own 1 (runes (openL l c))], []⟩ :=
  top21 rfl rfl [] trivial (w21 l c hl hn hto hc _ fun σ H h => retO rfl h)
theorem w19 (l : List Rec) (c : Int) (hl : ∀ r ∈ l, r.ok) (hn : l.length < 9223372036854775808) (hc : i32ok c) (Q : Ex → Slots → LH → Prop) (hQ : ∀ σ H, Slots.get σ 4 = .c (.int .i64 (classL l c)) → Q .ret σ H) : rnC Try.prog b19 Q [(0, .c (.sl 8 (recs l))), (1, .c (.int .i32 c))] [] := by
  unfold b19
  simp only [go_sem, ↓reduceIte, Nat.reduceEqDiff, Nat.reduceMul, Nat.reduceAdd, Nat.reduceDiv, Nat.reduceSub, Nat.reduceLT, Nat.reduceLeDiff, Int.reduceLE, Int.reduceLT, Int.reduceToNat, Int.reduceEq]
  refine callK_1 _ (fun _ => cw44 l _ _ (by decide) hl hn hc) (by simp only [go_sem, ↓reduceIte, Nat.reduceEqDiff, Nat.reduceMul, Nat.reduceAdd, Nat.reduceDiv, Nat.reduceSub, Nat.reduceLT, Nat.reduceLeDiff, Int.reduceLE, Int.reduceLT, Int.reduceToNat, Int.reduceEq]) rfl rfl ?_
  rcases find_cases l 2 c with ⟨h1, h2⟩ | ⟨k, r, h1, h2, h3, h4, h5⟩
  · simp only [go_sem, ↓reduceIte, Nat.reduceEqDiff, Nat.reduceMul, Nat.reduceAdd, Nat.reduceDiv, Nat.reduceSub, Nat.reduceLT, Nat.reduceLeDiff, Int.reduceLE, Int.reduceLT, Int.reduceToNat, Int.reduceEq, h1]
    exact hQ _ _ (by simp only [go_sem, ↓reduceIte, Nat.reduceEqDiff, Nat.reduceMul, Nat.reduceAdd, Nat.reduceDiv, Nat.reduceSub, Nat.reduceLT, Nat.reduceLeDiff, Int.reduceLE, Int.reduceLT, Int.reduceToNat, Int.reduceEq, classL, h2])
  · simp only [go_sem, ↓reduceIte, Nat.reduceEqDiff, Nat.reduceMul, Nat.reduceAdd, Nat.reduceDiv, Nat.reduceSub, Nat.reduceLT, Nat.reduceLeDiff, Int.reduceLE, Int.reduceLT, Int.reduceToNat, Int.reduceEq, h1, h3]
    exact ⟨fun h => by omega, fun h => ⟨by omega, hQ _ _ (by simp only [go_sem, ↓reduceIte, Nat.reduceEqDiff, Nat.reduceMul, Nat.reduceAdd, Nat.reduceDiv, Nat.reduceSub, Nat.reduceLT, Nat.reduceLeDiff, Int.reduceLE, Int.reduceLT, Int.reduceToNat, Int.reduceEq, classL, h5])⟩⟩
theorem cw19 (l : List Rec) (c : Int) (hl : ∀ r ∈ l, r.ok) (hn : l.length < 9223372036854775808) (hc : i32ok c) : CW Try.prog 19 [.cv (.sl 8 (recs l)), .cv (.int .i32 c)] ⟨[.cv (.int .i64 (classL l c))], []⟩ :=
  top19 rfl rfl [] trivial (w19 l c hl hn hc _ fun σ H h => ret1 rfl h)
theorem w17 (l : List Rec) (c : Int) (hl : ∀ r ∈ l, r.ok) (hn : l.length < 9223372036854775808) (hto : ∀ r ∈ l, r.to.length ≤ 35184372088832) (hc : i32ok c) (Q : Ex → Slots → LH → Prop) (hQ : ∀ σ H, Slots.get σ 4 = .c (.int .i32 ((primL l c).1)) → Slots.get σ 5 = .c (.int .i32 ((primL l c).2.1)) → Slots.get σ 6 = .c (.bool ((primL l c).2.2)) → Q .ret σ H) : rnC Try.prog b17 Q [(0, .c (.sl 8 (recs l))), (1, .c (.int .i32 c))] [] := by
  unfold b17
  simp only [go_sem, ↓reduceIte, Nat.reduceEqDiff, Nat.reduceMul, Nat.reduceAdd, Nat.reduceDiv, Nat.reduceSub, Nat.reduceLT, Nat.reduceLeDiff, Int.reduceLE, Int.reduceLT, Int.reduceToNat, Int.reduceEq]
  refine callK_1 _ (fun _ => cw43 _) (by simp only [go_sem, ↓reduceIte, Nat.reduceEqDiff, Nat.reduceMul, Nat.reduceAdd, Nat.reduceDiv, Nat.reduceSub, Nat.reduceLT, Nat.reduceLeDiff, Int.reduceLE, Int.reduceLT, Int.reduceToNat, Int.reduceEq]) rfl rfl ?_
  simp only [go_sem, ↓reduceIte, Nat.reduceEqDiff, Nat.reduceMul, Nat.reduceAdd, Nat.reduceDiv, Nat.reduceSub, Nat.reduceLT, Nat.reduceLeDiff, Int.reduceLE, Int.reduceLT, Int.reduceToNat, Int.reduceEq]
  repeat (refine ⟨by (first | omega | (intro h1 h2; exact ⟨h1, h2⟩) | (intro h1; omega) | (intro h1; exact h1) | trivial), ?_⟩)
  refine ⟨fun hs => ?_, fun hs => ?_⟩
  · have ho : primL l c = (partA c, partB c, true) := by simp [primL, hs]
    have ho2 : openL l c = [partA c, partB c] := by simp [openL, hs]
    rw [ho] at hQ
    refine callK_O 1 (runes (openL l c)) (fun _ => cw21 l c hl hn hto hc) (by simp only [go_sem, ↓reduceIte, Nat.reduceEqDiff, Nat.reduceMul, Nat.reduceAdd, Nat.reduceDiv, Nat.reduceSub, Nat.reduceLT, Nat.reduceLeDiff, Int.reduceLE, Int.reduceLT, Int.reduceToNat, Int.reduceEq]) rfl rfl ?_
    simp only [go_sem, ↓reduceIte, Nat.reduceEqDiff, Nat.reduceMul, Nat.reduceAdd, Nat.reduceDiv, Nat.reduceSub, Nat.reduceLT, Nat.reduceLeDiff, Int.reduceLE, Int.reduceLT, Int.reduceToNat, Int.reduceEq]
    repeat (refine ⟨by (first | omega | (intro h1 h2; exact ⟨h1, h2⟩) | (intro h1; omega) | (intro h1; exact h1) | trivial), ?_⟩)
    simp only [go_sem, ↓reduceIte, Nat.reduceEqDiff, Nat.reduceMul, Nat.reduceAdd, Nat.reduceDiv, Nat.reduceSub, Nat.reduceLT, Nat.reduceLeDiff, Int.reduceLE, Int.reduceLT, Int.reduceToNat, Int.reduceEq, ho2, runes, List.getD_cons_zero]
    exact ⟨by decide, by decide, hQ _ _ rfl rfl rfl⟩
  · refine callK_1 _ (fun _ => cw44 l _ _ (by decide) hl hn hc) (by simp only [go_sem, ↓reduceIte, Nat.reduceEqDiff, Nat.reduceMul, Nat.reduceAdd, Nat.reduceDiv, Nat.reduceSub, Nat.reduceLT, Nat.reduceLeDiff, Int.reduceLE, Int.reduceLT, Int.reduceToNat, Int.reduceEq]) rfl rfl ?_
    rcases find_cases l 3 c with ⟨h1, h2⟩ | ⟨k, r, h1, h2, h3, h4, h5⟩
    · simp only [go_sem, ↓reduceIte, Nat.reduceEqDiff, Nat.reduceMul, Nat.reduceAdd, Nat.reduceDiv, Nat.reduceSub, Nat.reduceLT, Nat.reduceLeDiff, Int.reduceLE, Int.reduceLT, Int.reduceToNat, Int.reduceEq, h1]
      have ho : primL l c = (0, 0, false) := by simp [primL, hs, h2]
      rw [ho] at hQ
      have e : (recs l).getD 0 .undef = .undef ∨ ∃ r : Rec, (recs l).getD 0 .undef = r.cv := by
        cases l with
        | nil => exact .inl rfl
        | cons r l => exact .inr ⟨r, rfl⟩
      rcases e with e | ⟨r, e⟩ <;> simp only [go_sem, ↓reduceIte, Nat.reduceEqDiff, Nat.reduceMul, Nat.reduceAdd, Nat.reduceDiv, Nat.reduceSub, Nat.reduceLT, Nat.reduceLeDiff, Int.reduceLE, Int.reduceLT, Int.reduceToNat, Int.reduceEq, e]
      all_goals exact hQ _ _ rfl rfl rfl
    · by_cases h7 : r.kind = 7 ∧ ∃ a b, r.to = [a, b]
      · obtain ⟨h7, a, b', hto⟩ := h7
        have ho : primL l c = (a, b', true) := by simp [primL, hs, h5, h7, hto]
        rw [ho] at hQ
        have e0 : (runes r.to).getD 0 .undef = .int .i32 a := by simp [hto, runes]
        have e1 : (runes r.to).getD 1 .undef = .int .i32 b' := by simp [hto, runes]
        have el : r.to.length = 2 := by simp [hto]
        simp only [go_sem, ↓reduceIte, Nat.reduceEqDiff, Nat.reduceMul, Nat.reduceAdd, Nat.reduceDiv, Nat.reduceSub, Nat.reduceLT, Nat.reduceLeDiff, Int.reduceLE, Int.reduceLT, Int.reduceToNat, Int.reduceEq, h1, h3, e0, e1, el]
        repeat (refine ⟨by (first | omega | (intro h1 h2; exact ⟨h1, h2⟩) | (intro h1; omega) | (intro h1; exact h1) | trivial), ?_⟩)
        refine fun _ => ?_
        repeat (refine ⟨by (first | omega | (intro h1 h2; exact ⟨h1, h2⟩) | (intro h1; omega) | (intro h1; exact h1) | trivial), ?_⟩)
        exact hQ _ _ rfl rfl rfl
      · have ho : primL l c = (0, 0, false) := by
          simp only [primL, hs, h5]
          rw [if_neg (by simp)]
          by_cases h : r.kind = 7
          · rw [if_pos h]
            split
            · rename_i a b' e; exact absurd ⟨h, a, b', e⟩ h7
            · rfl
          · rw [if_neg h]
        rw [ho] at hQ
        simp only [go_sem, ↓reduceIte, Nat.reduceEqDiff, Nat.reduceMul, Nat.reduceAdd, Nat.reduceDiv, Nat.reduceSub, Nat.reduceLT, Nat.reduceLeDiff, Int.reduceLE, Int.reduceLT, Int.reduceToNat, Int.reduceEq, h1, h3]
        repeat (refine ⟨by (first | omega | (intro h1 h2; exact ⟨h1, h2⟩) | (intro h1; omega) | (intro h1; exact h1) | trivial), ?_⟩)
        refine ⟨fun _ => hQ _ _ rfl rfl rfl, fun h => absurd ?_ h7⟩
        match hto : r.to, h with
        | [a, b'], h => exact ⟨h.1.2, a, b', rfl⟩
        | [], h => simp at h
        | [_], h => simp at h
        | _ :: _ :: _ :: _, h => simp at h; omega
theorem cw17 (l : List Rec) (c : Int) (hl : ∀ r ∈ l, r.ok) (hn : l.length < 9223372036854775808) (hto : ∀ r ∈ l, r.to.length ≤ 35184372088832) (hc : i32ok c) : CW Try.prog 17 [.cv (.sl 8 (recs l)), .cv (.int .i32 c)] ⟨[.cv (.int .i32 ((primL l c).1)), .cv (.int .i32 ((primL l c).2.1)), .cv (.bool ((primL l c).2.2))], []⟩ :=
  top17 rfl rfl [] trivial (w17 l c hl hn hto hc _ fun σ H h h' h'' => ret3 rfl h h' h'')
end Go.Proofs.Ytcpdnpaedkcebaa.V
