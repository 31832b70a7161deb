/- Contracts by hand: canon.Check's parts. -/
import Derived.Test.YtcpdnpaedkcebaaXl
import Derived.WideKeyRuns
import Derived.Lib.OthersKept
namespace Go.Proofs.Ytcpdnpaedkcebaa.V
open Go Go.RowKit
set_option linter.unusedVariables false
set_option linter.unusedSimpArgs false
set_option maxRecDepth 100000
def condT : Code → Code
  | .cond _ a _ => a
  | _ => .skip
def ya0 : IC := (.reg [⟨(some 2), 0, none, .mv (.c (.int .i64 0))⟩,
  ⟨(some 3), 0, none, .mv (.c (.int .i64 0))⟩])
theorem chk_ya0 : chkC Try.prog Try.f26.ntmps ya0 (seqA (codeOf Try.f26)) = true := by decide +kernel
def ya1 : IC := (.seq (.reg [⟨(some 17), 0, none, .mv (.t 0)⟩,
  ⟨(some 18), 1, none, .call (.c (.fn 30)) [((.t 17), .view 8)]⟩,
  ⟨(some 16), 0, none, .mv (.t 18)⟩,
  ⟨(some 19), 0, none, .ext (.t 16) 0⟩,
  ⟨(some 20), 0, none, .ext (.t 16) 1⟩,
  ⟨(some 4), 0, none, .mv (.t 19)⟩,
  ⟨(some 5), 0, none, .mv (.t 20)⟩]) (.seq (.reg [⟨(some 21), 0, none, .mv (.t 5)⟩,
  ⟨(some 22), 0, none, .bin .neq (.t 21) (.c (.int .i64 0))⟩]) (.cond (.t 22) (.seq (.reg [⟨(some 23), 0, none, .mv (.t 4)⟩,
  ⟨(some 24), 0, none, .mv (.t 5)⟩,
  ⟨(some 2), 0, none, .mv (.t 23)⟩,
  ⟨(some 3), 0, none, .mv (.t 24)⟩]) .ret) .skip)))
theorem chk_ya1 : chkC Try.prog Try.f26.ntmps ya1 (seqA (seqB (codeOf Try.f26))) = true := by decide +kernel
def ya5 : IC := (.reg [⟨(some 26), 0, none, .mv (.t 0)⟩,
  ⟨(some 27), 0, none, .len false (.t 26)⟩,
  ⟨(some 28), 0, none, .mv (.c (.int .i64 0))⟩])
theorem chk_ya5 : chkC Try.prog Try.f26.ntmps ya5 (seqA (seqA (seqB (seqB (seqB (codeOf Try.f26)))))) = true := by decide +kernel
def ya6 : IC := (.reg [⟨(some 29), 0, none, .bin .lss (.t 28) (.t 27)⟩])
theorem chk_ya6 : chkC Try.prog Try.f26.ntmps ya6 (seqA (loopC (blkC (seqB (seqA (seqB (seqB (seqB (codeOf Try.f26))))))))) = true := by decide +kernel
def yac : IC := (.cond (.t 29) .skip (.exit 0))
theorem chk_yac : chkC Try.prog Try.f26.ntmps yac (seqA (seqB (loopC (blkC (seqB (seqA (seqB (seqB (seqB (codeOf Try.f26)))))))))) = true := by decide +kernel
def ya7 : IC := (.reg [⟨(some 30), 0, none, .mv (.t 28)⟩,
  ⟨(some 31), 0, none, .ia (.t 26) (.t 28) 8⟩,
  ⟨(some 32), 0, none, .ld (.t 31) (some 8)⟩,
  ⟨(some 8), 11, none, .alloc [(.int .i64 0), (.int .i64 0), (.int .i64 0), (.int .i64 0), .nilsl, (.str ⟨#[]⟩), (.str ⟨#[]⟩), (.flt 0)]⟩,
  ⟨(some 7), 0, none, .mv (.t 30)⟩,
  ⟨none, 0, none, .st (.t 8) (.t 32) (some 8)⟩])
theorem chk_ya7 : chkC Try.prog Try.f26.ntmps ya7 (seqA (blkC (seqA (seqB (seqB (loopC (blkC (seqB (seqA (seqB (seqB (seqB (codeOf Try.f26))))))))))))) = true := by decide +kernel
def ya8 : IC := (.seq (.reg [⟨(some 33), 0, none, .mv (.t 0)⟩,
  ⟨(some 34), 0, none, .ld (.t 8) (some 8)⟩,
  ⟨(some 35), 12, none, .call (.c (.fn 50)) [((.t 33), .view 8), ((.t 34), .plain)]⟩,
  ⟨(some 9), 0, none, .mv (.t 35)⟩]) (.seq (.reg [⟨(some 36), 0, none, .mv (.t 9)⟩,
  ⟨(some 37), 0, none, .bin .neq (.t 36) (.c (.int .i64 0))⟩]) (.cond (.t 37) (.seq (.reg [⟨(some 38), 0, none, .mv (.t 7)⟩,
  ⟨(some 39), 0, none, .mv (.t 9)⟩,
  ⟨(some 2), 0, none, .mv (.t 38)⟩,
  ⟨(some 3), 0, none, .mv (.t 39)⟩]) .ret) .skip)))
theorem chk_ya8 : chkC Try.prog Try.f26.ntmps ya8 (seqA (seqB (blkC (seqA (seqB (seqB (loopC (blkC (seqB (seqA (seqB (seqB (seqB (codeOf Try.f26)))))))))))))) = true := by decide +kernel
def ya11 : IC := (.reg [⟨(some 40), 0, none, .fa (.t 8) 0⟩,
  ⟨(some 41), 0, none, .ld (.t 40) none⟩,
  ⟨(some 42), 0, none, .bin .eql (.t 41) (.c (.int .i64 7))⟩])
theorem chk_ya11 : chkC Try.prog Try.f26.ntmps ya11 (seqA (seqB (seqB (blkC (seqA (seqB (seqB (loopC (blkC (seqB (seqA (seqB (seqB (seqB (codeOf Try.f26))))))))))))))) = true := by decide +kernel
def ya12 : IC := (.draw (.take 0 ⟨(some 43), 0, none, .fa (.t 8) 4⟩ (.take 1 ⟨(some 44), 0, none, .ld (.t 43) none⟩ (.take 2 ⟨(some 45), 0, none, .ia (.t 44) (.c (.int .i64 0)) 1⟩ (.take 3 ⟨(some 46), 0, none, .ld (.t 45) none⟩ (.take 4 ⟨(some 47), 0, none, .fa (.t 8) 4⟩ (.take 5 ⟨(some 48), 0, none, .ld (.t 47) none⟩ (.take 6 ⟨(some 49), 0, none, .ia (.t 48) (.c (.int .i64 1)) 1⟩ (.take 7 ⟨(some 50), 0, none, .ld (.t 49) none⟩ (.take 8 ⟨(some 51), 0, none, .bld [(.int .i32 0), (.int .i32 0)] [(0, (.t 46)), (1, (.t 50))]⟩ (.br 9 ⟨(some 10), 22, none, .alloc [(.int .i32 0), (.int .i32 0)]⟩ [true, true, true, true, true, true, true, true, true] (.br 10 ⟨none, 0, none, .st (.t 10) (.t 51) (some 2)⟩ [false, false, false, false, false, false, false, false, false] .done .no) .no)))))))))))
theorem chk_ya12 : chkC Try.prog Try.f26.ntmps ya12 (seqA (condT (seqB (seqB (seqB (blkC (seqA (seqB (seqB (loopC (blkC (seqB (seqA (seqB (seqB (seqB (codeOf Try.f26))))))))))))))))) = true := by decide +kernel
def yat : IC := (.cond (.t 55) (.seq (.reg [⟨(some 56), 0, none, .mv (.t 7)⟩,
  ⟨(some 2), 0, none, .mv (.t 56)⟩,
  ⟨(some 3), 0, none, .mv (.c (.int .i64 74))⟩]) .ret) .skip)
theorem chk_yat : chkC Try.prog Try.f26.ntmps yat (seqB (seqA (seqB (condT (seqB (seqB (seqB (blkC (seqA (seqB (seqB (loopC (blkC (seqB (seqA (seqB (seqB (seqB (codeOf Try.f26))))))))))))))))))) = true := by decide +kernel
def ya16 : IC := (.reg [⟨(some 59), 0, none, .bin .add (.t 28) (.c (.int .i64 1))⟩,
  ⟨(some 28), 0, none, .mv (.t 59)⟩])
theorem chk_ya16 : chkC Try.prog Try.f26.ntmps ya16 (seqB (seqB (seqB (loopC (blkC (seqB (seqA (seqB (seqB (seqB (codeOf Try.f26))))))))))) = true := by decide +kernel
def ya17 : IC := (.reg [⟨(some 60), 23, none, .bsl 1 [(.c (.str ⟨#[97, 98, 99, 100, 101, 102, 103, 104, 105, 106, 107, 108, 109, 110, 111, 112, 113, 114, 115, 116, 117, 118, 119, 120, 121, 122]⟩)), (.c (.str ⟨#[48, 49, 50, 51, 52, 53, 54, 55, 56, 57, 45, 46]⟩))]⟩,
  ⟨(some 61), 0, none, .len false (.t 60)⟩,
  ⟨(some 62), 0, none, .mv (.c (.int .i64 0))⟩])
theorem chk_ya17 : chkC Try.prog Try.f26.ntmps ya17 (seqA (seqA (seqB (seqB (seqB (seqB (codeOf Try.f26))))))) = true := by decide +kernel
def ya18 : IC := (.reg [⟨(some 63), 0, none, .bin .lss (.t 62) (.t 61)⟩])
theorem chk_ya18 : chkC Try.prog Try.f26.ntmps ya18 (seqA (loopC (blkC (seqB (seqA (seqB (seqB (seqB (seqB (codeOf Try.f26)))))))))) = true := by decide +kernel
def yacm : IC := (.cond (.t 63) .skip (.exit 2))
theorem chk_yacm : chkC Try.prog Try.f26.ntmps yacm (seqA (seqB (loopC (blkC (seqB (seqA (seqB (seqB (seqB (seqB (codeOf Try.f26))))))))))) = true := by decide +kernel
def ya19 : IC := (.reg [⟨(some 64), 0, none, .ia (.t 60) (.t 62) 1⟩,
  ⟨(some 65), 0, none, .ld (.t 64) none⟩,
  ⟨(some 12), 0, none, .mv (.t 65)⟩])
theorem chk_ya19 : chkC Try.prog Try.f26.ntmps ya19 (seqA (blkC (seqA (seqB (seqB (loopC (blkC (seqB (seqA (seqB (seqB (seqB (seqB (codeOf Try.f26)))))))))))))) = true := by decide +kernel
def yacn : IC := (.cond (.t 69) .skip (.exit 4))
theorem chk_yacn : chkC Try.prog Try.f26.ntmps yacn (seqA (seqB (loopC (blkC (seqB (seqB (blkC (seqA (seqB (seqB (loopC (blkC (seqB (seqA (seqB (seqB (seqB (seqB (codeOf Try.f26))))))))))))))))))) = true := by decide +kernel
def ya22 : IC := (.block 5 (.seq (.reg [⟨(some 70), 0, none, .ext (.t 68) 2⟩,
  ⟨(some 14), 0, none, .mv (.t 70)⟩]) (.seq (.reg [⟨(some 71), 0, none, .mv (.t 0)⟩,
  ⟨(some 72), 0, none, .mv (.t 14)⟩,
  ⟨(some 73), 24, none, .call (.c (.fn 42)) [((.t 71), .view 8), ((.c (.int .i64 1)), .plain), ((.t 72), .plain)]⟩,
  ⟨(some 15), 0, none, .mv (.t 73)⟩]) (.seq (.reg [⟨(some 74), 0, none, .mv (.t 15)⟩,
  ⟨(some 75), 0, none, .bin .lss (.t 74) (.c (.int .i64 0))⟩,
  ⟨(some 76), 0, none, .mv (.t 75)⟩,
  ⟨(some 77), 0, (some (76, false)), .mv (.t 0)⟩,
  ⟨(some 78), 0, (some (76, false)), .mv (.t 15)⟩,
  ⟨(some 79), 0, (some (76, false)), .ia (.t 77) (.t 78) 8⟩,
  ⟨(some 80), 0, (some (76, false)), .fa (.t 79) 0⟩,
  ⟨(some 81), 0, (some (76, false)), .ld (.t 80) none⟩,
  ⟨(some 82), 0, (some (76, false)), .bin .neq (.t 81) (.c (.int .i64 1))⟩,
  ⟨(some 83), 0, none, .pick (.t 76) (.c (.bool true)) (.t 82)⟩]) (.cond (.t 83) (.seq (.reg [⟨(some 84), 0, none, .mv (.t 0)⟩,
  ⟨(some 85), 0, none, .len false (.t 84)⟩,
  ⟨(some 2), 0, none, .mv (.t 85)⟩,
  ⟨(some 3), 0, none, .mv (.c (.int .i64 70))⟩]) .ret) .skip)))))
theorem chk_ya22 : chkC Try.prog Try.f26.ntmps ya22 (seqB (seqB (loopC (blkC (seqB (seqB (blkC (seqA (seqB (seqB (loopC (blkC (seqB (seqA (seqB (seqB (seqB (seqB (codeOf Try.f26))))))))))))))))))) = true := by decide +kernel
def ya26 : IC := (.reg [⟨(some 86), 0, none, .bin .add (.t 62) (.c (.int .i64 1))⟩,
  ⟨(some 62), 0, none, .mv (.t 86)⟩])
theorem chk_ya26 : chkC Try.prog Try.f26.ntmps ya26 (seqB (seqB (seqB (loopC (blkC (seqB (seqA (seqB (seqB (seqB (seqB (codeOf Try.f26)))))))))))) = true := by decide +kernel
def yae : IC := (.seq (.reg [⟨(some 2), 0, none, .mv (.c (.int .i64 0))⟩,
  ⟨(some 3), 0, none, .mv (.c (.int .i64 0))⟩]) .ret)
theorem chk_yae : chkC Try.prog Try.f26.ntmps yae (seqB (seqB (seqB (seqB (seqB (codeOf Try.f26)))))) = true := by decide +kernel
theorem split26 : codeOf Try.f26 = .seq (seqA (codeOf Try.f26)) (.seq (seqA (seqB (codeOf Try.f26))) (.seq (.region 4 (opsOf (seqA (seqB (seqB (codeOf Try.f26))))) false)
  (.seq (.seq (seqA (seqA (seqB (seqB (seqB (codeOf Try.f26)))))) (.block 0 (.loop (loopC (blkC (seqB (seqA (seqB (seqB (seqB (codeOf Try.f26))))))))))) (.seq (.seq (seqA (seqA (seqB (seqB (seqB (seqB (codeOf Try.f26))))))) (.block 2 (.loop (loopC (blkC (seqB (seqA (seqB (seqB (seqB (seqB (codeOf Try.f26)))))))))))) (seqB (seqB (seqB (seqB (seqB (codeOf Try.f26)))))))))) := by kernel_rfl
theorem split26b : (loopC (blkC (seqB (seqA (seqB (seqB (seqB (codeOf Try.f26)))))))) = .seq (seqA (loopC (blkC (seqB (seqA (seqB (seqB (seqB (codeOf Try.f26))))))))) (.seq (seqA (seqB (loopC (blkC (seqB (seqA (seqB (seqB (seqB (codeOf Try.f26)))))))))) (.seq (.block 1 (.seq (seqA (blkC (seqA (seqB (seqB (loopC (blkC (seqB (seqA (seqB (seqB (seqB (codeOf Try.f26))))))))))))) (.seq (seqA (seqB (blkC (seqA (seqB (seqB (loopC (blkC (seqB (seqA (seqB (seqB (seqB (codeOf Try.f26)))))))))))))) (.seq (seqA (seqB (seqB (blkC (seqA (seqB (seqB (loopC (blkC (seqB (seqA (seqB (seqB (seqB (codeOf Try.f26))))))))))))))) (.cond (.tmp 42) (.seq (seqA (condT (seqB (seqB (seqB (blkC (seqA (seqB (seqB (loopC (blkC (seqB (seqA (seqB (seqB (seqB (codeOf Try.f26)))))))))))))))))
  (.seq (.seq (.region 13 (opsOf (seqA (seqA (seqB (condT (seqB (seqB (seqB (blkC (seqA (seqB (seqB (loopC (blkC (seqB (seqA (seqB (seqB (seqB (codeOf Try.f26)))))))))))))))))))) false) (seqB (seqA (seqB (condT (seqB (seqB (seqB (blkC (seqA (seqB (seqB (loopC (blkC (seqB (seqA (seqB (seqB (seqB (codeOf Try.f26)))))))))))))))))))) (.region 15 (opsOf (seqB (seqB (condT (seqB (seqB (seqB (blkC (seqA (seqB (seqB (loopC (blkC (seqB (seqA (seqB (seqB (seqB (codeOf Try.f26))))))))))))))))))) false))) .skip))))) (seqB (seqB (seqB (loopC (blkC (seqB (seqA (seqB (seqB (seqB (codeOf Try.f26))))))))))))) := by kernel_rfl
theorem split26c : (loopC (blkC (seqB (seqA (seqB (seqB (seqB (seqB (codeOf Try.f26))))))))) = .seq (seqA (loopC (blkC (seqB (seqA (seqB (seqB (seqB (seqB (codeOf Try.f26)))))))))) (.seq (seqA (seqB (loopC (blkC (seqB (seqA (seqB (seqB (seqB (seqB (codeOf Try.f26))))))))))) (.seq (.block 3 (.seq (seqA (blkC (seqA (seqB (seqB (loopC (blkC (seqB (seqA (seqB (seqB (seqB (seqB (codeOf Try.f26)))))))))))))) (.seq (.region 20 (opsOf (seqA (seqB (blkC (seqA (seqB (seqB (loopC (blkC (seqB (seqA (seqB (seqB (seqB (seqB (codeOf Try.f26)))))))))))))))) false) (.block 4 (.loop (loopC (blkC (seqB (seqB (blkC (seqA (seqB (seqB (loopC (blkC (seqB (seqA (seqB (seqB (seqB (seqB (codeOf Try.f26)))))))))))))))))))))) (seqB (seqB (seqB (loopC (blkC (seqB (seqA (seqB (seqB (seqB (seqB (codeOf Try.f26)))))))))))))) := by kernel_rfl
theorem split26d : (loopC (blkC (seqB (seqB (blkC (seqA (seqB (seqB (loopC (blkC (seqB (seqA (seqB (seqB (seqB (seqB (codeOf Try.f26))))))))))))))))) = .seq (.region 21 (opsOf (seqA (loopC (blkC (seqB (seqB (blkC (seqA (seqB (seqB (loopC (blkC (seqB (seqA (seqB (seqB (seqB (seqB (codeOf Try.f26))))))))))))))))))) false) (.seq (seqA (seqB (loopC (blkC (seqB (seqB (blkC (seqA (seqB (seqB (loopC (blkC (seqB (seqA (seqB (seqB (seqB (seqB (codeOf Try.f26))))))))))))))))))) (seqB (seqB (loopC (blkC (seqB (seqB (blkC (seqA (seqB (seqB (loopC (blkC (seqB (seqA (seqB (seqB (seqB (seqB (codeOf Try.f26)))))))))))))))))))) := by kernel_rfl

/-! ### Keys that are pairs of numbers -/
def isP (k : Value) : Prop := ∃ a b, k = .agg #[.int .i32 a, .int .i32 b]
theorem u82 : Try.prog.underlying 82 = some (.struct #[⟨ "a", 21, 0, false, "", "endonym/canon", 0⟩, ⟨ "b", 21, 1, false, "", "endonym/canon", 4⟩]) := by kernel_rfl
theorem u21 : Try.prog.underlying 21 = some (.int .i32) := by kernel_rfl
theorem st82 : Try.prog.stoodInHeld 82 = false := by kernel_rfl
theorem part82a (a b : Int) (w : World) : (part 21 #[Value.int .i32 a, Value.int .i32 b] 0).run Try.prog w = .ok (.int .i32 a) w := by kernel_rfl
theorem part82b (a b : Int) (w : World) : (part 21 #[Value.int .i32 a, Value.int .i32 b] 1).run Try.prog w = .ok (.int .i32 b) w := by kernel_rfl
theorem eq82 (a b c d : Int) (w : World) : (Op.equal 82 (.agg #[.int .i32 a, .int .i32 b]) (.agg #[.int .i32 c, .int .i32 d])).run Try.prog w = .ok (decide (a = c ∧ b = d)) w := by
  unfold Op.equal
  have e21 : ∀ x y : Int, ∀ n, (Op.equalIn (n + 1) 21 (.int .i32 x) (.int .i32 y)).run Try.prog w = .ok (x == y) w := fun x y n => by
    simp [Op.equalIn, run_underlying u21]
  show (Op.equalIn (9999 + 1) _ _ _).run _ _ = _
  rw [Op.equalIn]
  simp only [Sem.run_bind, run_underlying u82, Result.andThen_ok]
  simp [st82, part82a, part82b, e21, Sem.run_bind, Result.andThen]
  by_cases h1 : a = c
  · by_cases h2 : b = d <;> simp [h1, h2, part82b, e21, Sem.run_bind, Result.andThen]
  · simp [h1, part82b, e21, Sem.run_bind, Result.andThen]
theorem stay82 (a b : Int) (w : World) : (Instr.keyThatStays (.agg #[.int .i32 a, .int .i32 b]) (.agg #[.int .i32 a, .int .i32 b])).run Try.prog w = .ok (.agg #[.int .i32 a, .int .i32 b]) w := by
  have hs : Instr.sameBits 10000 (.agg #[.int .i32 a, .int .i32 b]) (.agg #[.int .i32 a, .int .i32 b]) = true := by
    show Instr.sameBits (9999 + 1) _ _ = true
    simp [Instr.sameBits]
  simp [Instr.keyThatStays, hs]
theorem keys82 : Keys Try.prog 82 isP where
  check := fun em k w ⟨a, b, hk⟩ => by subst hk; kernel_rfl
  find := fun k es w ⟨a, b, hk⟩ he => by
    subst hk
    rw [run_findKey_eq (P := Try.prog) (w := w) (k := 82) (by kernel_rfl)]
    have : ∀ (es : List MapEntry) (i : Nat), (∀ e ∈ es, isP e.key) → (Instr.findAsking 82 (.agg #[.int .i32 a, .int .i32 b]) es i).run Try.prog w = .ok (findL (.agg #[.int .i32 a, .int .i32 b]) es i) w := by
      intro es
      induction es with
      | nil => intro i _; rfl
      | cons e es ih =>
        intro i he
        obtain ⟨c, d, hcd⟩ := he e (by simp)
        unfold Instr.findAsking findL
        rw [Sem.run_bind, hcd, eq82, Result.andThen_ok]
        by_cases h : a = c ∧ b = d
        · obtain ⟨rfl, rfl⟩ := h
          simp
        · have h1 : ¬ (Value.agg #[.int .i32 c, .int .i32 d] = .agg #[.int .i32 a, .int .i32 b]) := fun h' => by
            injection h' with h'
            simp at h'
            exact h ⟨h'.1.symm, h'.2.symm⟩
          rw [if_neg h1, ← ih (i + 1) fun e he' => he e (by simp [he'])]
          simp [h]
    exact this es 0 he
  stay := fun k w ⟨a, b, hk⟩ => by subst hk; exact stay82 a b w
theorem map79 : Try.prog.underlying 79 = some (.map 82 3) := by kernel_rfl
theorem zero3 (w : World) : (zeroValue 3).run Try.prog w = .ok (.int .i64 0) w := by kernel_rfl

/-! ### What it tells -/
def plainP (l : List Rec) (c : Int) : Bool := match hit l 1 c with | some r => decide (r.kind = 1) | none => false
def wrongsP (l : List Rec) : List (Int × Int) → List Rec → Int → Option (Int × Int)
  | _, [], _ => none
  | seen, r :: s, i =>
    if wrongP l r ≠ 0 then some (i, wrongP l r) else
    if r.kind = 7 then
      match r.to with
      | [a, b] => if (a, b) ∈ seen then some (i, 74) else wrongsP l ((a, b) :: seen) s (i + 1)
      | _ => none
    else wrongsP l seen s (i + 1)
def abc : ByteArray := ⟨#[97, 98, 99, 100, 101, 102, 103, 104, 105, 106, 107, 108, 109, 110, 111, 112, 113, 114, 115, 116, 117, 118, 119, 120, 121, 122]⟩
def digits : ByteArray := ⟨#[48, 49, 50, 51, 52, 53, 54, 55, 56, 57, 45, 46]⟩
def plainsP (l : List Rec) (s : List UInt8) : Bool := s.all fun b => plainP l (b.toNat : Int)
def canonP (l : List Rec) : Int × Int :=
  if (checkP l).2 ≠ 0 then checkP l else
  match wrongsP l [] l 0 with
  | some x => x
  | none => if plainsP l abc.data.toList = true ∧ plainsP l digits.data.toList = true then (0, 0) else (l.length, 70)

/-! ### The parts -/
theorem wya0 (l : List Rec) (Q : Ex → Slots → LH → Prop) (hQ : ∀ σ, Has σ [(0, .c (.sl 8 (recs l)))] → Q .norm σ []) : rnC Try.prog ya0 Q [(0, .c (.sl 8 (recs l)))] [] := by
  unfold ya0
  simp only [go_sem, ↓reduceIte, Nat.reduceEqDiff, Nat.reduceMul, Nat.reduceAdd, Nat.reduceDiv, Nat.reduceSub, Nat.reduceLT, Nat.reduceLeDiff, Int.reduceLE, Int.reduceLT, Int.reduceToNat, Int.reduceEq]
  exact hQ _ ⟨rfl, trivial⟩
theorem wya1 (l : List Rec) (hl : ∀ r ∈ l, r.ok) (hto : ∀ r ∈ l, r.to.length ≤ 35184372088832) (Q : Ex → Slots → LH → Prop) (h1 : (checkP l).2 ≠ 0 → ∀ σ H, Has σ [(2, .c (.int .i64 (checkP l).1)), (3, .c (.int .i64 (checkP l).2))] → Q .ret σ H)
    (h2 : (checkP l).2 = 0 → ∀ σ, Has σ [(0, .c (.sl 8 (recs l)))] → Q .norm σ []) : rnC Try.prog ya1 Q [(0, .c (.sl 8 (recs l)))] [] := by
  unfold ya1
  simp only [go_sem, ↓reduceIte, Nat.reduceEqDiff, Nat.reduceMul, Nat.reduceAdd, Nat.reduceDiv, Nat.reduceSub, Nat.reduceLT, Nat.reduceLeDiff, Int.reduceLE, Int.reduceLT, Int.reduceToNat, Int.reduceEq]
  refine callK_2 _ _ (fun _ => cw30 l hl hto) (by simp only [go_sem, ↓reduceIte, Nat.reduceEqDiff, Nat.reduceMul, Nat.reduceAdd, Nat.reduceDiv, Nat.reduceSub, Nat.reduceLT, Nat.reduceLeDiff, Int.reduceLE, Int.reduceLT, Int.reduceToNat, Int.reduceEq]) rfl rfl ?_
  simp only [go_sem, ↓reduceIte, Nat.reduceEqDiff, Nat.reduceMul, Nat.reduceAdd, Nat.reduceDiv, Nat.reduceSub, Nat.reduceLT, Nat.reduceLeDiff, Int.reduceLE, Int.reduceLT, Int.reduceToNat, Int.reduceEq]
  repeat (refine ⟨by (first | omega | (intro h1 h2; exact ⟨h1, h2⟩) | (intro h1; omega) | (intro h1; exact h1) | trivial), ?_⟩)
  exact ⟨fun h => h1 (by simpa using h) _ _ ⟨rfl, rfl, trivial⟩, fun h => h2 (by simpa using h) _ ⟨rfl, trivial⟩⟩
def sA (l : List Rec) (m : Value) (i : Nat) : Slots := [(0, .c (.sl 8 (recs l))), (6, .c (.raw m)), (26, .c (.sl 8 (recs l))), (27, .c (.int .i64 l.length)), (28, .c (.int .i64 i))]
theorem wya5 (l : List Rec) (m : Value) (Q : Ex → Slots → LH → Prop) (hQ : ∀ σ, Has σ (sA l m 0) → Q .norm σ []) : rnC Try.prog ya5 Q [(0, .c (.sl 8 (recs l))), (6, .c (.raw m))] [] := by
  unfold ya5
  simp only [go_sem, ↓reduceIte, Nat.reduceEqDiff, Nat.reduceMul, Nat.reduceAdd, Nat.reduceDiv, Nat.reduceSub, Nat.reduceLT, Nat.reduceLeDiff, Int.reduceLE, Int.reduceLT, Int.reduceToNat, Int.reduceEq]
  exact hQ _ ⟨rfl, rfl, rfl, rfl, rfl, trivial⟩
theorem wya6 (l : List Rec) (m : Value) (i : Nat) (Q : Ex → Slots → LH → Prop) (hQ : ∀ σ, Has σ ((29, .c (.bool (decide ((i : Int) < l.length)))) :: sA l m i) → Q .norm σ []) : rnC Try.prog ya6 Q (sA l m i) [] := by
  unfold ya6 sA
  simp only [go_sem, ↓reduceIte, Nat.reduceEqDiff, Nat.reduceMul, Nat.reduceAdd, Nat.reduceDiv, Nat.reduceSub, Nat.reduceLT, Nat.reduceLeDiff, Int.reduceLE, Int.reduceLT, Int.reduceToNat, Int.reduceEq]
  exact hQ _ ⟨rfl, rfl, rfl, rfl, rfl, rfl, trivial⟩
theorem wyac (l : List Rec) (m : Value) (i : Nat) (Q : Ex → Slots → LH → Prop) (h1 : i < l.length → ∀ σ, Has σ (sA l m i) → Q .norm σ []) (h2 : l.length ≤ i → ∀ σ, Has σ (sA l m i) → Q (.exit 0) σ []) : rnC Try.prog yac Q ((29, .c (.bool (decide ((i : Int) < l.length)))) :: sA l m i) [] := by
  unfold yac sA
  simp only [go_sem, ↓reduceIte, Nat.reduceEqDiff, Nat.reduceMul, Nat.reduceAdd, Nat.reduceDiv, Nat.reduceSub, Nat.reduceLT, Nat.reduceLeDiff, Int.reduceLE, Int.reduceLT, Int.reduceToNat, Int.reduceEq]
  exact ⟨fun h => h1 (by omega) _ ⟨rfl, rfl, rfl, rfl, rfl, trivial⟩, fun h => h2 (by omega) _ ⟨rfl, rfl, rfl, rfl, rfl, trivial⟩⟩
def sB (l : List Rec) (m : Value) (i : Nat) : Slots := (7, .c (.int .i64 i)) :: (8, .ref 704 0) :: sA l m i
theorem wya7 (l : List Rec) (m : Value) (i : Nat) (r : Rec) (hi : i < l.length) (e : (recs l).getD i .undef = r.cv) (Q : Ex → Slots → LH → Prop) (h1 : ∀ σ, Has σ (sB l m i) → Q .norm σ [(704, robj r)]) : rnC Try.prog ya7 Q (sA l m i) [] := by
  unfold ya7 sA
  simp only [go_sem, ↓reduceIte, Nat.reduceEqDiff, Nat.reduceMul, Nat.reduceAdd, Nat.reduceDiv, Nat.reduceSub, Nat.reduceLT, Nat.reduceLeDiff, Int.reduceLE, Int.reduceLT, Int.reduceToNat, Int.reduceEq, e]
  exact ⟨by omega, h1 _ ⟨rfl, rfl, rfl, rfl, rfl, rfl, rfl, trivial⟩⟩
theorem wya8 (l : List Rec) (m : Value) (i : Nat) (r : Rec) (hm : r ∈ l) (h7 : r.kind = 7 → r.to.length = 2) (hl : ∀ r ∈ l, r.ok) (hn : l.length < 9223372036854775808) (hto : ∀ r ∈ l, r.to.length ≤ 35184372088832) (Q : Ex → Slots → LH → Prop)
    (h1 : wrongP l r ≠ 0 → ∀ σ H, Has σ [(2, .c (.int .i64 i)), (3, .c (.int .i64 (wrongP l r)))] → Q .ret σ H) (h2 : wrongP l r = 0 → ∀ σ, Has σ (sB l m i) → Q .norm σ [(704, robj r)]) : rnC Try.prog ya8 Q (sB l m i) [(704, robj r)] := by
  unfold ya8 sB sA robj
  simp only [go_sem, ↓reduceIte, Nat.reduceEqDiff, Nat.reduceMul, Nat.reduceAdd, Nat.reduceDiv, Nat.reduceSub, Nat.reduceLT, Nat.reduceLeDiff, Int.reduceLE, Int.reduceLT, Int.reduceToNat, Int.reduceEq]
  refine callK_1 _ (fun _ => cw50 l r hm h7 hl hn hto) (by simp only [go_sem, ↓reduceIte, Nat.reduceEqDiff, Nat.reduceMul, Nat.reduceAdd, Nat.reduceDiv, Nat.reduceSub, Nat.reduceLT, Nat.reduceLeDiff, Int.reduceLE, Int.reduceLT, Int.reduceToNat, Int.reduceEq]) rfl rfl ?_
  simp only [go_sem, ↓reduceIte, Nat.reduceEqDiff, Nat.reduceMul, Nat.reduceAdd, Nat.reduceDiv, Nat.reduceSub, Nat.reduceLT, Nat.reduceLeDiff, Int.reduceLE, Int.reduceLT, Int.reduceToNat, Int.reduceEq]
  repeat (refine ⟨by (first | omega | (intro h1 h2; exact ⟨h1, h2⟩) | (intro h1; omega) | (intro h1; exact h1) | trivial), ?_⟩)
  exact ⟨fun h => h1 (by simpa using h) _ _ ⟨rfl, rfl, trivial⟩, fun h => h2 (by simpa using h) _ ⟨rfl, rfl, rfl, rfl, rfl, rfl, rfl, trivial⟩⟩
theorem wya11 (l : List Rec) (m : Value) (i : Nat) (r : Rec) (Q : Ex → Slots → LH → Prop) (h2 : ∀ σ, Has σ ((42, .c (.bool (decide (r.kind = 7)))) :: sB l m i) → Q .norm σ [(704, robj r)]) : rnC Try.prog ya11 Q (sB l m i) [(704, robj r)] := by
  unfold ya11 sB sA robj
  simp only [go_sem, ↓reduceIte, Nat.reduceEqDiff, Nat.reduceMul, Nat.reduceAdd, Nat.reduceDiv, Nat.reduceSub, Nat.reduceLT, Nat.reduceLeDiff, Int.reduceLE, Int.reduceLT, Int.reduceToNat, Int.reduceEq]
  exact h2 _ ⟨rfl, rfl, rfl, rfl, rfl, rfl, rfl, rfl, trivial⟩
def hB (r : Rec) (a b : Int) : LH := [(704, robj r), (1408, .obj [.c (.int .i32 a), .c (.int .i32 b)])]
theorem wya12 (l : List Rec) (m : Value) (i : Nat) (r : Rec) (a b : Int) (hab : r.to = [a, b]) (Q : Ex → Slots → LH → Prop) (h2 : ∀ σ, Has σ ((10, .ref 1408 0) :: sB l m i) → Q .norm σ (hB r a b)) : rnC Try.prog ya12 Q (sB l m i) [(704, robj r)] := by
  have e0 : (runes r.to).getD 0 .undef = .int .i32 a := by simp [hab, runes]
  have e1 : (runes r.to).getD 1 .undef = .int .i32 b := by simp [hab, runes]
  have el : r.to.length = 2 := by simp [hab]
  unfold ya12 sB sA robj
  simp only [go_sem, ↓reduceIte, Nat.reduceEqDiff, Nat.reduceMul, Nat.reduceAdd, Nat.reduceDiv, Nat.reduceSub, Nat.reduceLT, Nat.reduceLeDiff, Int.reduceLE, Int.reduceLT, Int.reduceToNat, Int.reduceEq, e0, e1, el]
  repeat (refine ⟨by (first | omega | (intro h1 h2; exact ⟨h1, h2⟩) | (intro h1; omega) | (intro h1; exact h1) | trivial), ?_⟩)
  exact h2 _ ⟨rfl, rfl, rfl, rfl, rfl, rfl, rfl, rfl, trivial⟩
def q13a : List IOp := [⟨some 52, 0, none, .mv (.t 6)⟩, ⟨some 53, 0, none, .ld (.t 10) (some 2)⟩]
def q13b : List IOp := [⟨some 55, 0, none, .bin .gtr (.t 54) (.c (.int .i64 0))⟩]
def q15c : List IOp := [⟨some 57, 0, none, .mv (.t 6)⟩, ⟨some 58, 0, none, .ld (.t 10) (some 2)⟩]
def sC (l : List Rec) (m : Value) (i : Nat) : Slots := (10, .ref 1408 0) :: sB l m i
theorem wq13a (l : List Rec) (m : Value) (i : Nat) (r : Rec) (a b : Int) (Q : Ex → Slots → LH → Prop) (h2 : ∀ σ, Has σ ((53, .c (.agg [.int .i32 a, .int .i32 b])) :: (52, .c (.raw m)) :: sC l m i) → Q .norm σ (hB r a b)) : rnC Try.prog (.reg q13a) Q (sC l m i) (hB r a b) := by
  unfold q13a sC sB sA hB
  simp only [go_sem, ↓reduceIte, Nat.reduceEqDiff, Nat.reduceMul, Nat.reduceAdd, Nat.reduceDiv, Nat.reduceSub, Nat.reduceLT, Nat.reduceLeDiff, Int.reduceLE, Int.reduceLT, Int.reduceToNat, Int.reduceEq]
  exact h2 _ ⟨rfl, rfl, rfl, rfl, rfl, rfl, rfl, rfl, rfl, rfl, trivial⟩
theorem wq13b (l : List Rec) (m : Value) (i : Nat) (r : Rec) (a b n : Int) (Q : Ex → Slots → LH → Prop) (h2 : ∀ σ, Has σ ((55, .c (.bool (decide (0 < n)))) :: sC l m i) → Q .norm σ (hB r a b)) : rnC Try.prog (.reg q13b) Q ((54, .c (.int .i64 n)) :: sC l m i) (hB r a b) := by
  unfold q13b sC sB sA hB
  simp only [go_sem, ↓reduceIte, Nat.reduceEqDiff, Nat.reduceMul, Nat.reduceAdd, Nat.reduceDiv, Nat.reduceSub, Nat.reduceLT, Nat.reduceLeDiff, Int.reduceLE, Int.reduceLT, Int.reduceToNat, Int.reduceEq]
  exact h2 _ ⟨rfl, rfl, rfl, rfl, rfl, rfl, rfl, rfl, rfl, trivial⟩
theorem wyat (l : List Rec) (m : Value) (i : Nat) (r : Rec) (a b n : Int) (Q : Ex → Slots → LH → Prop) (h1 : 0 < n → ∀ σ H, Has σ [(2, .c (.int .i64 i)), (3, .c (.int .i64 74))] → Q .ret σ H) (h2 : ¬ 0 < n → ∀ σ, Has σ (sC l m i) → Q .norm σ (hB r a b)) : rnC Try.prog yat Q ((55, .c (.bool (decide (0 < n)))) :: sC l m i) (hB r a b) := by
  unfold yat sC sB sA hB
  simp only [go_sem, ↓reduceIte, Nat.reduceEqDiff, Nat.reduceMul, Nat.reduceAdd, Nat.reduceDiv, Nat.reduceSub, Nat.reduceLT, Nat.reduceLeDiff, Int.reduceLE, Int.reduceLT, Int.reduceToNat, Int.reduceEq]
  exact ⟨fun h => h1 (by simpa using h) _ _ ⟨rfl, rfl, trivial⟩, fun h => h2 (by simpa using h) _ ⟨rfl, rfl, rfl, rfl, rfl, rfl, rfl, rfl, trivial⟩⟩
theorem wq15c (l : List Rec) (m : Value) (i : Nat) (r : Rec) (a b : Int) (Q : Ex → Slots → LH → Prop) (h2 : ∀ σ, Has σ ((58, .c (.agg [.int .i32 a, .int .i32 b])) :: (57, .c (.raw m)) :: sA l m i) → Q .norm σ (hB r a b)) : rnC Try.prog (.reg q15c) Q (sC l m i) (hB r a b) := by
  unfold q15c sC sB sA hB
  simp only [go_sem, ↓reduceIte, Nat.reduceEqDiff, Nat.reduceMul, Nat.reduceAdd, Nat.reduceDiv, Nat.reduceSub, Nat.reduceLT, Nat.reduceLeDiff, Int.reduceLE, Int.reduceLT, Int.reduceToNat, Int.reduceEq]
  exact h2 _ ⟨rfl, rfl, rfl, rfl, rfl, rfl, rfl, trivial⟩
theorem wya16 (l : List Rec) (m : Value) (i : Nat) (hi : i < l.length) (hn : l.length ≤ 4096) (Q : Ex → Slots → LH → Prop) (h1 : ∀ σ, Has σ (sA l m (i + 1)) → Q .norm σ []) : rnC Try.prog ya16 Q (sA l m i) [] := by
  unfold ya16 sA
  simp only [go_sem, ↓reduceIte, Nat.reduceEqDiff, Nat.reduceMul, Nat.reduceAdd, Nat.reduceDiv, Nat.reduceSub, Nat.reduceLT, Nat.reduceLeDiff, Int.reduceLE, Int.reduceLT, Int.reduceToNat, Int.reduceEq]
  rw [succ64 hi (by omega)]
  exact h1 _ ⟨rfl, rfl, rfl, rfl, rfl, trivial⟩
def hS : LH := [(1472, .row 1 [.str abc, .str digits])]
def sS (l : List Rec) (k : Nat) : Slots := [(0, .c (.sl 8 (recs l))), (60, .osl 1472 0 2), (61, .c (.int .i64 2)), (62, .c (.int .i64 k))]
theorem wya17 (l : List Rec) (Q : Ex → Slots → LH → Prop) (hQ : ∀ σ, Has σ [(0, .c (.sl 8 (recs l))), (60, .osl 1472 0 2), (61, .c (.int .i64 2)), (62, .c (.int .i64 0))] → Q .norm σ hS) : rnC Try.prog ya17 Q [(0, .c (.sl 8 (recs l)))] [] := by
  unfold ya17
  simp only [go_sem, ↓reduceIte, Nat.reduceEqDiff, Nat.reduceMul, Nat.reduceAdd, Nat.reduceDiv, Nat.reduceSub, Nat.reduceLT, Nat.reduceLeDiff, Int.reduceLE, Int.reduceLT, Int.reduceToNat, Int.reduceEq]
  exact hQ _ ⟨rfl, rfl, rfl, rfl, trivial⟩
theorem wya18 (l : List Rec) (k : Nat) (Q : Ex → Slots → LH → Prop) (hQ : ∀ σ, Has σ ((63, .c (.bool (decide ((k : Int) < 2)))) :: sS l k) → Q .norm σ hS) : rnC Try.prog ya18 Q (sS l k) hS := by
  unfold ya18 sS hS
  simp only [go_sem, ↓reduceIte, Nat.reduceEqDiff, Nat.reduceMul, Nat.reduceAdd, Nat.reduceDiv, Nat.reduceSub, Nat.reduceLT, Nat.reduceLeDiff, Int.reduceLE, Int.reduceLT, Int.reduceToNat, Int.reduceEq]
  exact hQ _ ⟨rfl, rfl, rfl, rfl, rfl, trivial⟩
theorem wyacm (l : List Rec) (k : Nat) (Q : Ex → Slots → LH → Prop) (h1 : k < 2 → ∀ σ, Has σ (sS l k) → Q .norm σ hS) (h2 : 2 ≤ k → ∀ σ, Has σ (sS l k) → Q (.exit 2) σ hS) : rnC Try.prog yacm Q ((63, .c (.bool (decide ((k : Int) < 2)))) :: sS l k) hS := by
  unfold yacm sS hS
  simp only [go_sem, ↓reduceIte, Nat.reduceEqDiff, Nat.reduceMul, Nat.reduceAdd, Nat.reduceDiv, Nat.reduceSub, Nat.reduceLT, Nat.reduceLeDiff, Int.reduceLE, Int.reduceLT, Int.reduceToNat, Int.reduceEq]
  exact ⟨fun h => h1 (by omega) _ ⟨rfl, rfl, rfl, rfl, trivial⟩, fun h => h2 (by omega) _ ⟨rfl, rfl, rfl, rfl, trivial⟩⟩
def strK (k : Nat) : ByteArray := if k = 0 then abc else digits
theorem wya19 (l : List Rec) (k : Nat) (hk : k < 2) (Q : Ex → Slots → LH → Prop) (h1 : ∀ σ, Has σ ((12, .c (.str (strK k))) :: sS l k) → Q .norm σ hS) : rnC Try.prog ya19 Q (sS l k) hS := by
  have e : ([CV.str abc, CV.str digits] : List CV).getD k .undef = .str (strK k) := by
    match k, hk with
    | 0, _ => rfl
    | 1, _ => rfl
  unfold ya19 sS hS
  simp only [go_sem, ↓reduceIte, Nat.reduceEqDiff, Nat.reduceMul, Nat.reduceAdd, Nat.reduceDiv, Nat.reduceSub, Nat.reduceLT, Nat.reduceLeDiff, Int.reduceLE, Int.reduceLT, Int.reduceToNat, Int.reduceEq, e]
  exact ⟨by omega, h1 _ ⟨rfl, rfl, rfl, rfl, rfl, trivial⟩⟩
def q20a : List IOp := [⟨some 66, 0, none, .mv (.t 12)⟩]
theorem wq20a (l : List Rec) (k : Nat) (Q : Ex → Slots → LH → Prop) (h1 : ∀ σ, Has σ ((66, .c (.str (strK k))) :: sS l k) → Q .norm σ hS) : rnC Try.prog (.reg q20a) Q ((12, .c (.str (strK k))) :: sS l k) hS := by
  unfold q20a sS hS
  simp only [go_sem, ↓reduceIte, Nat.reduceEqDiff, Nat.reduceMul, Nat.reduceAdd, Nat.reduceDiv, Nat.reduceSub, Nat.reduceLT, Nat.reduceLeDiff, Int.reduceLE, Int.reduceLT, Int.reduceToNat, Int.reduceEq]
  exact h1 _ ⟨rfl, rfl, rfl, rfl, rfl, trivial⟩
def sT (l : List Rec) (k : Nat) (it : Value) : Slots := (67, .c (.raw it)) :: sS l k
def q21c : List IOp := [⟨some 69, 0, none, .ext (.t 68) 0⟩]
theorem wq21c (l : List Rec) (k : Nat) (it : Value) (t : Bool) (vs : List AV) (Q : Ex → Slots → LH → Prop) (h1 : ∀ σ, Has σ ((69, .c (.bool t)) :: (68, .tup (.c (.bool t) :: vs)) :: sT l k it) → Q .norm σ hS) : rnC Try.prog (.reg q21c) Q ((68, .tup (.c (.bool t) :: vs)) :: sT l k it) hS := by
  unfold q21c sT sS hS
  simp only [go_sem, ↓reduceIte, Nat.reduceEqDiff, Nat.reduceMul, Nat.reduceAdd, Nat.reduceDiv, Nat.reduceSub, Nat.reduceLT, Nat.reduceLeDiff, Int.reduceLE, Int.reduceLT, Int.reduceToNat, Int.reduceEq]
  exact ⟨by omega, h1 _ ⟨rfl, rfl, rfl, rfl, rfl, rfl, rfl, trivial⟩⟩
theorem wyacn (l : List Rec) (k : Nat) (it : Value) (t : Bool) (vs : List AV) (Q : Ex → Slots → LH → Prop) (h1 : t = true → ∀ σ, Has σ ((68, .tup (.c (.bool t) :: vs)) :: sT l k it) → Q .norm σ hS) (h2 : t = false → ∀ σ, Has σ (sS l k) → Q (.exit 4) σ hS) :
    rnC Try.prog yacn Q ((69, .c (.bool t)) :: (68, .tup (.c (.bool t) :: vs)) :: sT l k it) hS := by
  unfold yacn sT sS hS
  simp only [go_sem, ↓reduceIte, Nat.reduceEqDiff, Nat.reduceMul, Nat.reduceAdd, Nat.reduceDiv, Nat.reduceSub, Nat.reduceLT, Nat.reduceLeDiff, Int.reduceLE, Int.reduceLT, Int.reduceToNat, Int.reduceEq]
  exact ⟨fun h => h1 h _ ⟨rfl, rfl, rfl, rfl, rfl, rfl, trivial⟩, fun h => h2 h _ ⟨rfl, rfl, rfl, rfl, trivial⟩⟩
theorem wya22 (l : List Rec) (k : Nat) (it : Value) (p c : Int) (hl : ∀ r ∈ l, r.ok) (hn : l.length < 9223372036854775808) (hc : i32ok c) (Q : Ex → Slots → LH → Prop) (h1 : plainP l c = false → ∀ σ H, Has σ [(2, .c (.int .i64 l.length)), (3, .c (.int .i64 70))] → Q .ret σ H) (h2 : plainP l c = true → ∀ σ, Has σ (sT l k it) → Q .norm σ hS) :
    rnC Try.prog ya22 Q ((68, .tup [.c (.bool true), .c (.int .i64 p), .c (.int .i32 c)]) :: sT l k it) hS := by
  unfold ya22 sT sS hS
  simp only [go_sem, ↓reduceIte, Nat.reduceEqDiff, Nat.reduceMul, Nat.reduceAdd, Nat.reduceDiv, Nat.reduceSub, Nat.reduceLT, Nat.reduceLeDiff, Int.reduceLE, Int.reduceLT, Int.reduceToNat, Int.reduceEq]
  refine callK_1 _ (fun _ => cw42 l 1 c hl hn hc) (by simp only [go_sem, ↓reduceIte, Nat.reduceEqDiff, Nat.reduceMul, Nat.reduceAdd, Nat.reduceDiv, Nat.reduceSub, Nat.reduceLT, Nat.reduceLeDiff, Int.reduceLE, Int.reduceLT, Int.reduceToNat, Int.reduceEq]) rfl rfl ?_
  simp only [go_sem, ↓reduceIte, Nat.reduceEqDiff, Nat.reduceMul, Nat.reduceAdd, Nat.reduceDiv, Nat.reduceSub, Nat.reduceLT, Nat.reduceLeDiff, Int.reduceLE, Int.reduceLT, Int.reduceToNat, Int.reduceEq]
  repeat (refine ⟨by (first | omega | (intro h1 h2; exact ⟨h1, h2⟩) | (intro h1; omega) | (intro h1; exact h1) | trivial), ?_⟩)
  rcases find_cases l 1 c with ⟨e1, e2⟩ | ⟨j, r, e1, e2, e3, e4, e5⟩
  · have hp : plainP l c = false := by unfold plainP; rw [e2]
    have h0 : (recs l).getD 0 .undef = .undef ∨ ∃ r : Rec, (recs l).getD 0 .undef = r.cv := by
      cases l with
      | nil => exact .inl rfl
      | cons r l => exact .inr ⟨r, rfl⟩
    rcases h0 with e0 | ⟨r, e0⟩
    · simp only [go_sem, ↓reduceIte, Nat.reduceEqDiff, Nat.reduceMul, Nat.reduceAdd, Nat.reduceDiv, Nat.reduceSub, Nat.reduceLT, Nat.reduceLeDiff, Int.reduceLE, Int.reduceLT, Int.reduceToNat, Int.reduceEq, e1, e0]
      exact h1 hp _ _ ⟨rfl, rfl, trivial⟩
    · simp only [go_sem, ↓reduceIte, Nat.reduceEqDiff, Nat.reduceMul, Nat.reduceAdd, Nat.reduceDiv, Nat.reduceSub, Nat.reduceLT, Nat.reduceLeDiff, Int.reduceLE, Int.reduceLT, Int.reduceToNat, Int.reduceEq, e1, e0]
      exact h1 hp _ _ ⟨rfl, rfl, trivial⟩
  · simp only [go_sem, ↓reduceIte, Nat.reduceEqDiff, Nat.reduceMul, Nat.reduceAdd, Nat.reduceDiv, Nat.reduceSub, Nat.reduceLT, Nat.reduceLeDiff, Int.reduceLE, Int.reduceLT, Int.reduceToNat, Int.reduceEq, e1, e3]
    have hj : (0 : Int) ≤ j := Int.natCast_nonneg j
    refine ⟨fun _ => ⟨hj, by omega⟩, fun h => h1 ?_ _ _ ⟨rfl, rfl, trivial⟩, fun h => h2 ?_ _ ⟨rfl, rfl, rfl, rfl, rfl, trivial⟩⟩
    · have : ¬ r.kind = 1 := h.resolve_left (by omega)
      unfold plainP; rw [e5]; simpa using this
    · unfold plainP; rw [e5]; simpa using h.2
theorem wya26 (l : List Rec) (k : Nat) (hk : k < 2) (Q : Ex → Slots → LH → Prop) (h1 : ∀ σ, Has σ (sS l (k + 1)) → Q .norm σ hS) : rnC Try.prog ya26 Q (sS l k) hS := by
  unfold ya26 sS hS
  simp only [go_sem, ↓reduceIte, Nat.reduceEqDiff, Nat.reduceMul, Nat.reduceAdd, Nat.reduceDiv, Nat.reduceSub, Nat.reduceLT, Nat.reduceLeDiff, Int.reduceLE, Int.reduceLT, Int.reduceToNat, Int.reduceEq]
  rw [succ64 hk (by omega)]
  exact h1 _ ⟨rfl, rfl, rfl, rfl, trivial⟩
theorem wyae (Q : Ex → Slots → LH → Prop) (h1 : ∀ σ, Has σ [(2, .c (.int .i64 0)), (3, .c (.int .i64 0))] → Q .ret σ []) : rnC Try.prog yae Q [] [] := by
  unfold yae
  simp only [go_sem, ↓reduceIte, Nat.reduceEqDiff, Nat.reduceMul, Nat.reduceAdd, Nat.reduceDiv, Nat.reduceSub, Nat.reduceLT, Nat.reduceLeDiff, Int.reduceLE, Int.reduceLT, Int.reduceToNat, Int.reduceEq]
  exact h1 _ ⟨rfl, rfl, trivial⟩
end Go.Proofs.Ytcpdnpaedkcebaa.V
