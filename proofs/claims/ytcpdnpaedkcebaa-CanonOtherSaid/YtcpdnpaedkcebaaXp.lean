/- Contracts: sameness, copies, the law's base. -/
import Derived.Test.YtcpdnpaedkcebaaXo
namespace Go.Proofs.Ytcpdnpaedkcebaa.V
open Go Go.RowKit
set_option linter.unusedVariables false
set_option linter.unusedSimpArgs false
set_option maxRecDepth 100000
/- endonym/endonymref6.SameRecord -/
def b46 : IC := (.seq (.reg [⟨(some 2), 1, none, .box (.t 0)⟩,
  ⟨(some 3), 2, none, .box (.t 1)⟩,
  ⟨(some 4), 0, none, .mv (.c (.bool false))⟩]) (.seq (.draw (.take 0 ⟨(some 5), 0, none, .fa (.t 2) 0⟩ (.take 1 ⟨(some 6), 0, none, .ld (.t 5) none⟩ (.take 2 ⟨(some 7), 0, none, .fa (.t 3) 0⟩ (.take 3 ⟨(some 8), 0, none, .ld (.t 7) none⟩ (.take 4 ⟨(some 9), 0, none, .bin .eql (.t 6) (.t 8)⟩ (.take 5 ⟨(some 10), 0, none, .mv (.t 9)⟩ (.take 6 ⟨(some 11), 0, (some (10, true)), .fa (.t 2) 1⟩ (.take 7 ⟨(some 12), 0, (some (10, true)), .ld (.t 11) none⟩ (.take 8 ⟨(some 13), 0, (some (10, true)), .fa (.t 3) 1⟩ (.take 9 ⟨(some 14), 0, (some (10, true)), .ld (.t 13) none⟩ (.take 10 ⟨(some 15), 0, (some (10, true)), .bin .eql (.t 12) (.t 14)⟩ (.take 11 ⟨(some 16), 0, none, .pick (.t 10) (.t 15) (.c (.bool false))⟩ (.take 12 ⟨(some 17), 0, none, .mv (.t 16)⟩ (.take 13 ⟨(some 18), 0, (some (17, true)), .fa (.t 2) 2⟩ (.take 14 ⟨(some 19), 0, (some (17, true)), .ld (.t 18) none⟩ (.take 15 ⟨(some 20), 0, (some (17, true)), .fa (.t 3) 2⟩ (.take 16 ⟨(some 21), 0, (some (17, true)), .ld (.t 20) none⟩ (.take 17 ⟨(some 22), 0, (some (17, true)), .bin .eql (.t 19) (.t 21)⟩ (.take 18 ⟨(some 23), 0, none, .pick (.t 17) (.t 22) (.c (.bool false))⟩ (.take 19 ⟨(some 24), 0, none, .mv (.t 23)⟩ (.take 20 ⟨(some 25), 0, (some (24, true)), .fa (.t 2) 3⟩ (.take 21 ⟨(some 26), 0, (some (24, true)), .ld (.t 25) none⟩ (.take 22 ⟨(some 27), 0, (some (24, true)), .fa (.t 3) 3⟩ (.take 23 ⟨(some 28), 0, (some (24, true)), .ld (.t 27) none⟩ (.take 24 ⟨(some 29), 0, (some (24, true)), .bin .eql (.t 26) (.t 28)⟩ (.take 25 ⟨(some 30), 0, none, .pick (.t 24) (.t 29) (.c (.bool false))⟩ (.take 26 ⟨(some 31), 0, none, .mv (.t 30)⟩ (.take 27 ⟨(some 32), 0, (some (31, true)), .fa (.t 2) 4⟩ (.take 28 ⟨(some 33), 0, (some (31, true)), .ld (.t 32) none⟩ (.take 29 ⟨(some 34), 0, (some (31, true)), .fa (.t 3) 4⟩ (.take 30 ⟨(some 35), 0, (some (31, true)), .ld (.t 34) none⟩ (.br 31 ⟨(some 36), 3, (some (31, true)), .call (.c (.fn 20)) [((.t 33), .view 1), ((.t 35), .view 1)]⟩ [false, true, false, true, false, true, true, true, true, true, true, true, true, true, true, true, true, true, true, true, true, true, true, true, true, true, true, true, true, true, true] (.take 32 ⟨(some 37), 0, none, .pick (.t 31) (.t 36) (.c (.bool false))⟩ (.take 33 ⟨(some 38), 0, none, .mv (.t 37)⟩ (.take 34 ⟨(some 39), 0, (some (38, true)), .fa (.t 2) 5⟩ (.take 35 ⟨(some 40), 0, (some (38, true)), .ld (.t 39) none⟩ (.take 36 ⟨(some 41), 0, (some (38, true)), .fa (.t 3) 5⟩ (.take 37 ⟨(some 42), 0, (some (38, true)), .ld (.t 41) none⟩ (.take 38 ⟨(some 43), 0, (some (38, true)), .bin .eql (.t 40) (.t 42)⟩ (.take 39 ⟨(some 44), 0, none, .pick (.t 38) (.t 43) (.c (.bool false))⟩ (.take 40 ⟨(some 45), 0, none, .mv (.t 44)⟩ (.take 41 ⟨(some 46), 0, (some (45, true)), .fa (.t 2) 6⟩ (.take 42 ⟨(some 47), 0, (some (45, true)), .ld (.t 46) none⟩ (.take 43 ⟨(some 48), 0, (some (45, true)), .fa (.t 3) 6⟩ (.take 44 ⟨(some 49), 0, (some (45, true)), .ld (.t 48) none⟩ (.take 45 ⟨(some 50), 0, (some (45, true)), .bin .eql (.t 47) (.t 49)⟩ (.take 46 ⟨(some 51), 0, none, .pick (.t 45) (.t 50) (.c (.bool false))⟩ (.take 47 ⟨(some 52), 0, none, .mv (.t 51)⟩ (.take 48 ⟨(some 53), 0, (some (52, true)), .fa (.t 2) 7⟩ (.take 49 ⟨(some 54), 0, (some (52, true)), .ld (.t 53) none⟩ (.take 51 ⟨(some 56), 0, (some (52, true)), .fa (.t 3) 7⟩ (.take 52 ⟨(some 57), 0, (some (52, true)), .ld (.t 56) none⟩ (.br 50 ⟨(some 55), 13, (some (52, true)), .call (.c (.fn 69)) [((.t 54), .plain)]⟩ [true, true, false, true, false, true, true, true, true, true, true, true, true, true, true, true, true, true, true, true, true, true, true, true, true, true, true, true, true, true, true, true, true, true, true, true, true, true, true, true, true, true, true, true, true, true, true, true] (.br 53 ⟨(some 58), 23, (some (52, true)), .call (.c (.fn 69)) [((.t 57), .plain)]⟩ [false, true, true, true, true, true, true, true, true, true, true, true, true, true, true, true, true, true, true, true, true, true, true, true, true, true, true, true, true, true, true, true, true, true, true, true, true, true, true, true, true, true, true, true, true, true] (.take 54 ⟨(some 59), 0, (some (52, true)), .bin .eql (.t 55) (.t 58)⟩ (.take 55 ⟨(some 60), 0, none, .pick (.t 52) (.t 59) (.c (.bool false))⟩ (.take 56 ⟨(some 4), 0, none, .mv (.t 60)⟩ .done))) .no) .no))))))))))))))))))))) .no))))))))))))))))))))))))))))))))) .ret))
def rs46 : List (Nat × Option Nat × Mode) := [(4, none, .plain)]
theorem chk46 : chkC Try.prog Try.f46.ntmps b46 (Try.f46.body.getD .skip) = true := by decide +kernel
theorem top46 {args : List Arg} {out : Out} (ha : args.length.ble Try.f46.ntmps = true) (h8 : args.length.ble 8 = true) (mss : List (List (Option Nat))) (hb : backOK args out.back)
    (hw : rnC Try.prog b46 (topQ rs46 args mss out) (slotsOf (argsAV argBase args 0) 0) (argsOb argBase args 0)) : CW Try.prog 46 args out :=
  CW.of Try.func46 rs46 mss (by decide +kernel) (by decide +kernel) (by decide +kernel) ha h8 chk46 hb hw
/- endonym/endonymref6.Same -/
def l23_0 : IC := (.seq (.seq (.reg [⟨(some 11), 0, none, .mv (.t 5)⟩,
  ⟨(some 12), 0, none, .mv (.t 0)⟩,
  ⟨(some 13), 0, none, .len false (.t 12)⟩,
  ⟨(some 14), 0, none, .bin .lss (.t 11) (.t 13)⟩]) (.cond (.t 14) .skip (.exit 0))) (.seq (.block 1 (.seq (.draw (.take 0 ⟨(some 17), 0, none, .mv (.t 0)⟩ (.take 1 ⟨(some 18), 0, none, .mv (.t 5)⟩ (.take 2 ⟨(some 19), 0, none, .ia (.t 17) (.t 18) 8⟩ (.take 3 ⟨(some 20), 0, none, .ld (.t 19) (some 8)⟩ (.take 4 ⟨(some 21), 0, none, .mv (.t 1)⟩ (.take 5 ⟨(some 22), 0, none, .mv (.t 5)⟩ (.take 6 ⟨(some 23), 0, none, .ia (.t 21) (.t 22) 8⟩ (.take 7 ⟨(some 24), 0, none, .ld (.t 23) (some 8)⟩ (.br 8 ⟨(some 25), 1, none, .call (.c (.fn 46)) [((.t 20), .plain), ((.t 24), .plain)]⟩ [false, true, true, true, false, true, true, true] (.take 9 ⟨(some 26), 0, none, .not (.t 25)⟩ .done) .no)))))))))) (.cond (.t 26) (.seq (.reg [⟨(some 4), 0, none, .mv (.c (.bool false))⟩]) .ret) .skip))) (.reg [⟨(some 15), 0, none, .mv (.t 5)⟩,
  ⟨(some 16), 0, none, .bin .add (.t 15) (.c (.int .i64 1))⟩,
  ⟨(some 5), 0, none, .mv (.t 16)⟩])))
def n23_0 : Norm := ⟨[(0, .plain), (1, .plain), (5, .plain)], []⟩
def b23 : IC := (.seq (.reg [⟨(some 4), 0, none, .mv (.c (.bool false))⟩]) (.seq (.seq (.reg [⟨(some 6), 0, none, .mv (.t 0)⟩,
  ⟨(some 7), 0, none, .len false (.t 6)⟩,
  ⟨(some 8), 0, none, .mv (.t 1)⟩,
  ⟨(some 9), 0, none, .len false (.t 8)⟩,
  ⟨(some 10), 0, none, .bin .neq (.t 7) (.t 9)⟩]) (.cond (.t 10) (.seq (.reg [⟨(some 4), 0, none, .mv (.c (.bool false))⟩]) .ret) .skip)) (.seq (.seq (.reg [⟨(some 5), 0, none, .mv (.c (.int .i64 0))⟩]) (.block 0 (.loop n23_0 l23_0))) (.seq (.reg [⟨(some 4), 0, none, .mv (.c (.bool true))⟩]) .ret))))
def rs23 : List (Nat × Option Nat × Mode) := [(4, none, .plain)]
theorem chk23 : chkC Try.prog Try.f23.ntmps b23 (Try.f23.body.getD .skip) = true := by decide +kernel
theorem top23 {args : List Arg} {out : Out} (ha : args.length.ble Try.f23.ntmps = true) (h8 : args.length.ble 8 = true) (mss : List (List (Option Nat))) (hb : backOK args out.back)
    (hw : rnC Try.prog b23 (topQ rs23 args mss out) (slotsOf (argsAV argBase args 0) 0) (argsOb argBase args 0)) : CW Try.prog 23 args out :=
  CW.of Try.func23 rs23 mss (by decide +kernel) (by decide +kernel) (by decide +kernel) ha h8 chk23 hb hw
/- endonym/endonymref6.Copied -/
def l29_0 : IC := (.seq (.seq (.reg [⟨(some 7), 0, none, .mv (.t 4)⟩,
  ⟨(some 8), 0, none, .mv (.t 0)⟩,
  ⟨(some 9), 0, none, .len false (.t 8)⟩,
  ⟨(some 10), 0, none, .bin .lss (.t 7) (.t 9)⟩]) (.cond (.t 10) .skip (.exit 0))) (.seq (.block 1 (.seq (.reg [⟨(some 13), 0, none, .mv (.t 0)⟩,
  ⟨(some 14), 0, none, .mv (.t 4)⟩,
  ⟨(some 15), 0, none, .ia (.t 13) (.t 14) 8⟩,
  ⟨(some 16), 0, none, .ld (.t 15) (some 8)⟩,
  ⟨(some 5), 1, none, .alloc [(.int .i64 0), (.int .i64 0), (.int .i64 0), (.int .i64 0), .nilsl, (.str ⟨#[]⟩), (.str ⟨#[]⟩), (.flt 0)]⟩,
  ⟨none, 0, none, .st (.t 5) (.t 16) (some 8)⟩]) (.seq (.reg [⟨(some 6), 0, none, .mv (.c .nilsl)⟩]) (.seq (.reg [⟨(some 17), 0, none, .mv (.t 6)⟩,
  ⟨(some 18), 0, none, .mv (.t 0)⟩,
  ⟨(some 19), 0, none, .mv (.t 4)⟩,
  ⟨(some 20), 0, none, .ia (.t 18) (.t 19) 8⟩,
  ⟨(some 21), 0, none, .fa (.t 20) 4⟩,
  ⟨(some 22), 0, none, .ld (.t 21) none⟩,
  ⟨(some 23), 2, none, .app (.t 17) (.t 22) 1 4 false⟩,
  ⟨(some 24), 0, none, .fa (.t 5) 4⟩,
  ⟨none, 0, none, .st (.t 24) (.t 23) none⟩]) (.pubc 5 4 (.reg [⟨(some 25), 0, none, .mv (.t 3)⟩,
  ⟨(some 26), 0, none, .ld (.t 5) (some 8)⟩,
  ⟨(some 27), 3, none, .bsl 8 [(.t 26)]⟩,
  ⟨(some 28), 4, none, .app (.t 25) (.t 27) 8 96 false⟩,
  ⟨(some 3), 0, none, .mv (.t 28)⟩])))))) (.reg [⟨(some 11), 0, none, .mv (.t 4)⟩,
  ⟨(some 12), 0, none, .bin .add (.t 11) (.c (.int .i64 1))⟩,
  ⟨(some 4), 0, none, .mv (.t 12)⟩])))
def n29_0 : Norm := ⟨[(0, .plain), (3, .own 8 1000003), (4, .plain)], []⟩
def b29 : IC := (.seq (.reg [⟨(some 2), 0, none, .mv (.c .nilsl)⟩]) (.seq (.reg [⟨(some 3), 0, none, .mv (.c .nilsl)⟩]) (.seq (.seq (.reg [⟨(some 4), 0, none, .mv (.c (.int .i64 0))⟩]) (.block 0 (.loop n29_0 l29_0))) (.seq (.reg [⟨(some 29), 0, none, .mv (.t 3)⟩,
  ⟨(some 2), 0, none, .mv (.t 29)⟩]) .ret))))
def rs29 : List (Nat × Option Nat × Mode) := [(2, none, .move 8)]
theorem chk29 : chkC Try.prog Try.f29.ntmps b29 (Try.f29.body.getD .skip) = true := by decide +kernel
theorem top29 {args : List Arg} {out : Out} (ha : args.length.ble Try.f29.ntmps = true) (h8 : args.length.ble 8 = true) (mss : List (List (Option Nat))) (hb : backOK args out.back)
    (hw : rnC Try.prog b29 (topQ rs29 args mss out) (slotsOf (argsAV argBase args 0) 0) (argsOb argBase args 0)) : CW Try.prog 29 args out :=
  CW.of Try.func29 rs29 mss (by decide +kernel) (by decide +kernel) (by decide +kernel) ha h8 chk29 hb hw
/- endonym/endonymlaw7.few -/
def b14 : IC := (.seq (.reg [⟨(some 4), 0, none, .mv (.c .nilsl)⟩]) (.seq (.reg [⟨(some 5), 0, none, .mv (.t 0)⟩,
  ⟨(some 6), 0, none, .mv (.t 0)⟩,
  ⟨(some 7), 0, none, .len false (.t 6)⟩,
  ⟨(some 8), 0, none, .mv (.t 1)⟩,
  ⟨(some 9), 0, none, .mn (.t 7) (.t 8)⟩,
  ⟨(some 10), 0, none, .slc (.t 5) none (some (.t 9)) none 8⟩,
  ⟨(some 11), 1, none, .call (.c (.fn 29)) [((.t 10), .view 8)]⟩,
  ⟨(some 4), 0, none, .mv (.t 11)⟩]) .ret))
def rs14 : List (Nat × Option Nat × Mode) := [(4, none, .move 8)]
theorem chk14 : chkC Try.prog Try.f14.ntmps b14 (Try.f14.body.getD .skip) = true := by decide +kernel
theorem top14 {args : List Arg} {out : Out} (ha : args.length.ble Try.f14.ntmps = true) (h8 : args.length.ble 8 = true) (mss : List (List (Option Nat))) (hb : backOK args out.back)
    (hw : rnC Try.prog b14 (topQ rs14 args mss out) (slotsOf (argsAV argBase args 0) 0) (argsOb argBase args 0)) : CW Try.prog 14 args out :=
  CW.of Try.func14 rs14 mss (by decide +kernel) (by decide +kernel) (by decide +kernel) ha h8 chk14 hb hw

def sameR (a b : Rec) : Bool :=
  decide (a.kind = b.kind) && decide (a.lo = b.lo) && decide (a.hi = b.hi) && decide (a.n = b.n) && decide (a.to = b.to) && decide (a.name.data.toList = b.name.data.toList) && decide (a.other.data.toList = b.other.data.toList) && decide ((a.weight : Int) = b.weight)
theorem w46 (a b : Rec) (ha : a.to.length < 9223372036854775808) (hb : b.to.length < 9223372036854775808) (Q : Ex → Slots → LH → Prop) (hQ : ∀ σ H, Slots.get σ 4 = .c (.bool (sameR a b)) → Q .ret σ H) : rnC Try.prog b46 Q [(0, .c (Rec.cv a)), (1, .c (Rec.cv b))] [] := by
  unfold b46
  simp only [go_sem, ↓reduceIte, Nat.reduceEqDiff, Nat.reduceMul, Nat.reduceAdd, Nat.reduceDiv, Nat.reduceSub, Nat.reduceLT, Nat.reduceLeDiff, Int.reduceLE, Int.reduceLT, Int.reduceToNat, Int.reduceEq]
  refine callK_1 _ (fun _ => cw20 a.to b.to ha hb) (by simp only [go_sem, ↓reduceIte, Nat.reduceEqDiff, Nat.reduceMul, Nat.reduceAdd, Nat.reduceDiv, Nat.reduceSub, Nat.reduceLT, Nat.reduceLeDiff, Int.reduceLE, Int.reduceLT, Int.reduceToNat, Int.reduceEq]) rfl rfl ?_
  simp only [go_sem, ↓reduceIte, Nat.reduceEqDiff, Nat.reduceMul, Nat.reduceAdd, Nat.reduceDiv, Nat.reduceSub, Nat.reduceLT, Nat.reduceLeDiff, Int.reduceLE, Int.reduceLT, Int.reduceToNat, Int.reduceEq]
  repeat (refine ⟨by (first | omega | (intro h1 h2; exact ⟨h1, h2⟩) | (intro h1; omega) | (intro h1; exact h1) | trivial), ?_⟩)
  refine callK_1 _ (fun _ => cw69 _) (by simp only [go_sem, ↓reduceIte, Nat.reduceEqDiff, Nat.reduceMul, Nat.reduceAdd, Nat.reduceDiv, Nat.reduceSub, Nat.reduceLT, Nat.reduceLeDiff, Int.reduceLE, Int.reduceLT, Int.reduceToNat, Int.reduceEq]) rfl rfl ?_
  simp only [go_sem, ↓reduceIte, Nat.reduceEqDiff, Nat.reduceMul, Nat.reduceAdd, Nat.reduceDiv, Nat.reduceSub, Nat.reduceLT, Nat.reduceLeDiff, Int.reduceLE, Int.reduceLT, Int.reduceToNat, Int.reduceEq]
  repeat (refine ⟨by (first | omega | (intro h1 h2; exact ⟨h1, h2⟩) | (intro h1; omega) | (intro h1; exact h1) | trivial), ?_⟩)
  refine callK_1 _ (fun _ => cw69 _) (by simp only [go_sem, ↓reduceIte, Nat.reduceEqDiff, Nat.reduceMul, Nat.reduceAdd, Nat.reduceDiv, Nat.reduceSub, Nat.reduceLT, Nat.reduceLeDiff, Int.reduceLE, Int.reduceLT, Int.reduceToNat, Int.reduceEq]) rfl rfl ?_
  simp only [go_sem, ↓reduceIte, Nat.reduceEqDiff, Nat.reduceMul, Nat.reduceAdd, Nat.reduceDiv, Nat.reduceSub, Nat.reduceLT, Nat.reduceLeDiff, Int.reduceLE, Int.reduceLT, Int.reduceToNat, Int.reduceEq]
  repeat (refine ⟨by (first | omega | (intro h1 h2; exact ⟨h1, h2⟩) | (intro h1; omega) | (intro h1; exact h1) | trivial), ?_⟩)
  apply hQ
  simp only [go_sem, ↓reduceIte, Nat.reduceEqDiff, Nat.reduceMul, Nat.reduceAdd, Nat.reduceDiv, Nat.reduceSub, Nat.reduceLT, Nat.reduceLeDiff, Int.reduceLE, Int.reduceLT, Int.reduceToNat, Int.reduceEq, sameR]
  rw [Bool.beq_eq_decide_eq]
theorem cw46 (a b : Rec) (ha : a.to.length < 9223372036854775808) (hb : b.to.length < 9223372036854775808) : CW Try.prog 46 [.cv (Rec.cv a), .cv (Rec.cv b)] ⟨[.cv (.bool (sameR a b))], []⟩ :=
  top46 rfl rfl [] trivial (w46 a b ha hb _ fun σ H h => ret1 rfl h)
def sameL : List Rec → List Rec → Bool
  | [], [] => true
  | a :: s, b :: t => sameR a b && sameL s t
  | _, _ => false
theorem sameL_len : ∀ {s t : List Rec}, ¬ s.length = t.length → sameL s t = false
  | [], [], h => absurd rfl h
  | [], _ :: _, _ => rfl
  | _ :: _, [], _ => rfl
  | a :: s, b :: t, h => by
    rw [sameL, sameL_len (by simpa using h), Bool.and_false]
theorem sameR_self (a : Rec) : sameR a a = true := by simp [sameR]
theorem sameL_self : ∀ s : List Rec, sameL s s = true
  | [] => rfl
  | a :: s => by rw [sameL, sameR_self, sameL_self s]; rfl
theorem w23 (a b : List Rec) (ha : a.length < 9223372036854775808) (hb : b.length < 9223372036854775808) (hta : ∀ r ∈ a, r.to.length ≤ 35184372088832) (htb : ∀ r ∈ b, r.to.length ≤ 35184372088832) (Q : Ex → Slots → LH → Prop) (hQ : ∀ σ H, Slots.get σ 4 = .c (.bool (sameL a b)) → Q .ret σ H) : rnC Try.prog b23 Q [(0, .c (.sl 8 (recs a))), (1, .c (.sl 8 (recs b)))] [] := by
  unfold b23
  simp only [go_sem, ↓reduceIte, Nat.reduceEqDiff, Nat.reduceMul, Nat.reduceAdd, Nat.reduceDiv, Nat.reduceSub, Nat.reduceLT, Nat.reduceLeDiff, Int.reduceLE, Int.reduceLT, Int.reduceToNat, Int.reduceEq]
  refine ⟨fun h => ?_, fun h => ?_⟩
  · apply hQ
    all_goals simp only [go_sem, ↓reduceIte, Nat.reduceEqDiff, Nat.reduceMul, Nat.reduceAdd, Nat.reduceDiv, Nat.reduceSub, Nat.reduceLT, Nat.reduceLeDiff, Int.reduceLE, Int.reduceLT, Int.reduceToNat, Int.reduceEq]
    rw [sameL_len (by omega)]
  refine loopR.by (α := Nat) (fun i => [(0, .c (.sl 8 (recs a))), (1, .c (.sl 8 (recs b))), (5, .c (.int .i64 i))]) (fun i => []) (fun i => a.length - i) (fun i => i ≤ a.length ∧ (sameL (a.drop i) (b.drop i) = sameL a b)) 0 ⟨Nat.zero_le _, rfl⟩ ?_ ?_
  · intro Y hY
    simp only [go_sem, ↓reduceIte, Nat.reduceEqDiff, Nat.reduceMul, Nat.reduceAdd, Nat.reduceDiv, Nat.reduceSub, Nat.reduceLT, Nat.reduceLeDiff, Int.reduceLE, Int.reduceLT, Int.reduceToNat, Int.reduceEq, n23_0]
    exact hY
  intro i hk Y hY
  unfold l23_0
  rcases Nat.lt_or_ge i (a.length) with hlt | hge
  · have hlb : i < b.length := by omega
    obtain ⟨r, e, hm, hd⟩ := recs_at hlt
    obtain ⟨r', e', hm', hd'⟩ := recs_at hlb
    have hf := hk.2
    rw [hd, hd', sameL] at hf
    simp only [go_sem, ↓reduceIte, Nat.reduceEqDiff, Nat.reduceMul, Nat.reduceAdd, Nat.reduceDiv, Nat.reduceSub, Nat.reduceLT, Nat.reduceLeDiff, Int.reduceLE, Int.reduceLT, Int.reduceToNat, Int.reduceEq, n23_0, e, e']
    refine ⟨fun _ => ⟨by omega, by omega, ?_⟩, fun h => by omega⟩
    refine callK_1 _ (fun _ => cw46 r r' (by have := hta r hm; omega) (by have := htb r' hm'; omega)) (by simp only [go_sem, ↓reduceIte, Nat.reduceEqDiff, Nat.reduceMul, Nat.reduceAdd, Nat.reduceDiv, Nat.reduceSub, Nat.reduceLT, Nat.reduceLeDiff, Int.reduceLE, Int.reduceLT, Int.reduceToNat, Int.reduceEq]) rfl rfl ?_
    simp only [go_sem, ↓reduceIte, Nat.reduceEqDiff, Nat.reduceMul, Nat.reduceAdd, Nat.reduceDiv, Nat.reduceSub, Nat.reduceLT, Nat.reduceLeDiff, Int.reduceLE, Int.reduceLT, Int.reduceToNat, Int.reduceEq, e, e']
    repeat (refine ⟨by (first | omega | (intro h1 h2; exact ⟨h1, h2⟩) | (intro h1; omega) | (intro h1; exact h1) | trivial), ?_⟩)
    rw [succ64 hlt (by omega)]
    refine ⟨fun h1 => ?_, fun h1 => hY (i + 1) ⟨hlt, ?_⟩ (by omega)⟩
    · rw [h1, Bool.false_and] at hf
      apply hQ
      all_goals simp only [go_sem, ↓reduceIte, Nat.reduceEqDiff, Nat.reduceMul, Nat.reduceAdd, Nat.reduceDiv, Nat.reduceSub, Nat.reduceLT, Nat.reduceLeDiff, Int.reduceLE, Int.reduceLT, Int.reduceToNat, Int.reduceEq, ← hf]
    · rw [h1, Bool.true_and] at hf
      exact hf
  · have hlen : i = a.length := by omega
    have hf := hk.2
    rw [hlen, List.drop_length, show a.length = b.length by omega, List.drop_length] at hf
    simp only [go_sem, ↓reduceIte, Nat.reduceEqDiff, Nat.reduceMul, Nat.reduceAdd, Nat.reduceDiv, Nat.reduceSub, Nat.reduceLT, Nat.reduceLeDiff, Int.reduceLE, Int.reduceLT, Int.reduceToNat, Int.reduceEq, n23_0]
    exact ⟨fun h => by omega, fun _ => hQ _ _ (by rw [← hf]; rfl)⟩
theorem cw23 (a b : List Rec) (ha : a.length < 9223372036854775808) (hb : b.length < 9223372036854775808) (hta : ∀ r ∈ a, r.to.length ≤ 35184372088832) (htb : ∀ r ∈ b, r.to.length ≤ 35184372088832) : CW Try.prog 23 [.cv (.sl 8 (recs a)), .cv (.sl 8 (recs b))] ⟨[.cv (.bool (sameL a b))], []⟩ :=
  top23 rfl rfl [] trivial (w23 a b ha hb hta htb _ fun σ H h => ret1 rfl h)
theorem w29 (l : List Rec) (hn : l.length ≤ 1000000) (hto : ∀ r ∈ l, r.to.length ≤ 35184372088832) (Q : Ex → Slots → LH → Prop) (hQ : ∀ σ H, OwnAt 8 (recs l) (Slots.get σ 2) H → Q .ret σ H) : rnC Try.prog b29 Q [(0, .c (.sl 8 (recs l)))] [] := by
  unfold b29
  simp only [go_sem, ↓reduceIte, Nat.reduceEqDiff, Nat.reduceMul, Nat.reduceAdd, Nat.reduceDiv, Nat.reduceSub, Nat.reduceLT, Nat.reduceLeDiff, Int.reduceLE, Int.reduceLT, Int.reduceToNat, Int.reduceEq]
  refine loopR.by (α := Nat) (fun i => [(0, .c (.sl 8 (recs l))), (3, .osl 1000003 0 i), (4, .c (.int .i64 i))]) (fun i => [(1000003, .row 8 (recs (l.take i)))]) (fun i => l.length - i) (fun i => i ≤ l.length) 0 (Nat.zero_le _) ?_ ?_
  · intro Y hY
    simp only [go_sem, ↓reduceIte, Nat.reduceEqDiff, Nat.reduceMul, Nat.reduceAdd, Nat.reduceDiv, Nat.reduceSub, Nat.reduceLT, Nat.reduceLeDiff, Int.reduceLE, Int.reduceLT, Int.reduceToNat, Int.reduceEq, n29_0]
    exact hY
  intro i hk Y hY
  unfold l29_0
  rcases Nat.lt_or_ge i l.length with hlt | hge
  · obtain ⟨r, e, hm, hd⟩ := recs_at hlt
    have h1 : List.take i (recs (l.take i)) = recs (l.take i) := List.take_of_length_le (by rw [recs_len, List.length_take]; omega)
    have h2 : (recs (l.take i)).length = i := by rw [recs_len, List.length_take]; omega
    have h3 : List.take r.to.length (runes r.to) = runes r.to := List.take_of_length_le (by rw [runes_len]; omega)
    have h4 : recs (l.take (i + 1)) = recs (l.take i) ++ [r.cv] := by
      rw [List.take_add_one, List.getElem?_eq_getElem hlt]
      have h2 : l.drop i = l[i] :: l.drop (i + 1) := List.drop_eq_getElem_cons hlt
      rw [h2] at hd
      injection hd with hd1 hd2
      rw [hd1]; simp [recs]
    simp only [go_sem, ↓reduceIte, Nat.reduceEqDiff, Nat.reduceMul, Nat.reduceAdd, Nat.reduceDiv, Nat.reduceSub, Nat.reduceLT, Nat.reduceLeDiff, Int.reduceLE, Int.reduceLT, Int.reduceToNat, Int.reduceEq, n29_0, e]
    rw [h1, h2, h3, succ64 hlt (by omega)]
    have := hto r hm
    refine ⟨fun _ => ⟨by omega, by omega, by omega, by omega, rfl, ?_⟩, fun h => by omega⟩
    have := hY (i + 1) hlt (by omega)
    rw [h4] at this
    exact this
  · simp only [go_sem, ↓reduceIte, Nat.reduceEqDiff, Nat.reduceMul, Nat.reduceAdd, Nat.reduceDiv, Nat.reduceSub, Nat.reduceLT, Nat.reduceLeDiff, Int.reduceLE, Int.reduceLT, Int.reduceToNat, Int.reduceEq, n29_0]
    refine ⟨fun h => by omega, fun _ => hQ _ _ (own_at rfl (by rw [recs_len]; omega) ?_)⟩
    rw [List.take_of_length_le hge]; rfl
theorem cw29 (l : List Rec) (hn : l.length ≤ 1000000) (hto : ∀ r ∈ l, r.to.length ≤ 35184372088832) : CW Try.prog 29 [.cv (.sl 8 (recs l))] ⟨[.own 8 (recs l)], []⟩ :=
  top29 rfl rfl [] trivial (w29 l hn hto _ fun σ H h => retO rfl h)
theorem w14 (l : List Rec) (most : Nat) (hm : most ≤ 1000000) (hn : l.length < 9223372036854775808) (hto : ∀ r ∈ l, r.to.length ≤ 35184372088832) (Q : Ex → Slots → LH → Prop) (hQ : ∀ σ H, OwnAt 8 (recs (l.take most)) (Slots.get σ 4) H → Q .ret σ H) : rnC Try.prog b14 Q [(0, .c (.sl 8 (recs l))), (1, .c (.int .i64 most))] [] := by
  unfold b14
  have e : ((if (most : Int) < l.length then (most : Int) else l.length).toNat - 0) = (l.take most).length := by
    rw [List.length_take]; split <;> omega
  have e2 : List.take (l.take most).length (recs l) = recs (l.take most) := by
    rw [List.length_take, recs, recs, ← List.map_take]
    congr 1
    rcases Nat.le_total most l.length with h | h
    · rw [Nat.min_eq_left h]
    · rw [Nat.min_eq_right h, List.take_length, List.take_of_length_le h]
  simp only [go_sem, ↓reduceIte, Nat.reduceEqDiff, Nat.reduceMul, Nat.reduceAdd, Nat.reduceDiv, Nat.reduceSub, Nat.reduceLT, Nat.reduceLeDiff, Int.reduceLE, Int.reduceLT, Int.reduceToNat, Int.reduceEq]
  rw [e, e2]
  refine ⟨⟨by split <;> omega, by omega, by split <;> omega, by omega⟩, ?_⟩
  refine callK_O 8 (recs (l.take most)) (fun _ => cw29 (l.take most) (by rw [List.length_take]; omega) (fun r h => hto r (List.mem_of_mem_take h))) (by simp only [go_sem, ↓reduceIte, Nat.reduceEqDiff, Nat.reduceMul, Nat.reduceAdd, Nat.reduceDiv, Nat.reduceSub, Nat.reduceLT, Nat.reduceLeDiff, Int.reduceLE, Int.reduceLT, Int.reduceToNat, Int.reduceEq]) rfl rfl ?_
  simp only [go_sem, ↓reduceIte, Nat.reduceEqDiff, Nat.reduceMul, Nat.reduceAdd, Nat.reduceDiv, Nat.reduceSub, Nat.reduceLT, Nat.reduceLeDiff, Int.reduceLE, Int.reduceLT, Int.reduceToNat, Int.reduceEq]
  repeat (refine ⟨by (first | omega | (intro h1 h2; exact ⟨h1, h2⟩) | (intro h1; omega) | (intro h1; exact h1) | trivial), ?_⟩)
  exact hQ _ _ (own_at rfl (by first | rfl | rw [recs_len]) rfl)
theorem cw14 (l : List Rec) (most : Nat) (hm : most ≤ 1000000) (hn : l.length < 9223372036854775808) (hto : ∀ r ∈ l, r.to.length ≤ 35184372088832) : CW Try.prog 14 [.cv (.sl 8 (recs l)), .cv (.int .i64 most)] ⟨[.own 8 (recs (l.take most))], []⟩ :=
  top14 rfl rfl [] trivial (w14 l most hm hn hto _ fun σ H h => retO rfl h)
def recP (k lo hi n : Int) (to : List Int) : Rec := ⟨k, lo, hi, n, to, ⟨#[]⟩, ⟨#[]⟩, 0⟩
def baseL : List Rec := [recP 1 97 122 0 [], recP 1 48 57 0 [], recP 1 45 46 0 [], recP 7 192 192 0 [65, 768], recP 6 768 768 230 []]
end Go.Proofs.Ytcpdnpaedkcebaa.V
