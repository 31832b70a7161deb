/- Contracts: what a record's fields may be. -/
import Derived.Test.YtcpdnpaedkcebaaWa
import Derived.Test.YtcpdnpaedkcebaaWd
namespace Go.Proofs.Ytcpdnpaedkcebaa.V
open Go Go.RowKit
set_option linter.unusedVariables false
set_option linter.unusedSimpArgs false
set_option maxRecDepth 100000
/- endonym/scalar.Sound -/
def l130_0 : IC := (.seq (.reg [⟨(some 8), 0, none, .bin .lss (.t 7) (.t 6)⟩]) (.seq (.cond (.t 8) .skip (.exit 0)) (.seq (.block 1 (.seq (.reg [⟨(some 9), 0, none, .ia (.t 5) (.t 7) 1⟩,
  ⟨(some 10), 0, none, .ld (.t 9) none⟩,
  ⟨(some 4), 0, none, .mv (.t 10)⟩]) (.seq (.reg [⟨(some 11), 0, none, .mv (.t 4)⟩,
  ⟨(some 12), 1, none, .call (.c (.fn 131)) [((.t 11), .plain)]⟩,
  ⟨(some 13), 0, none, .not (.t 12)⟩]) (.cond (.t 13) (.seq (.reg [⟨(some 2), 0, none, .mv (.c (.bool false))⟩]) .ret) .skip)))) (.reg [⟨(some 14), 0, none, .bin .add (.t 7) (.c (.int .i64 1))⟩,
  ⟨(some 7), 0, none, .mv (.t 14)⟩]))))
def n130_0 : Norm := ⟨[(5, .plain), (6, .plain), (7, .plain)], []⟩
def b130 : IC := (.seq (.reg [⟨(some 2), 0, none, .mv (.c (.bool false))⟩]) (.seq (.seq (.reg [⟨(some 5), 0, none, .mv (.t 0)⟩,
  ⟨(some 6), 0, none, .len false (.t 5)⟩,
  ⟨(some 7), 0, none, .mv (.c (.int .i64 0))⟩]) (.block 0 (.loop n130_0 l130_0))) (.seq (.reg [⟨(some 2), 0, none, .mv (.c (.bool true))⟩]) .ret)))
def rs130 : List (Nat × Option Nat × Mode) := [(2, none, .plain)]
theorem chk130 : chkC Try.prog Try.f130.ntmps b130 (Try.f130.body.getD .skip) = true := by decide +kernel
theorem top130 {args : List Arg} {out : Out} (ha : args.length.ble Try.f130.ntmps = true) (h8 : args.length.ble 8 = true) (mss : List (List (Option Nat))) (hb : backOK args out.back)
    (hw : rnC Try.prog b130 (topQ rs130 args mss out) (slotsOf (argsAV argBase args 0) 0) (argsOb argBase args 0)) : CW Try.prog 130 args out :=
  CW.of Try.func130 rs130 mss (by decide +kernel) (by decide +kernel) (by decide +kernel) ha h8 chk130 hb hw
/- endonym/table.sound -/
def b118 : IC := (.seq (.reg [⟨(some 3), 1, none, .box (.t 0)⟩,
  ⟨(some 6), 0, none, .mv (.c (.bool false))⟩]) (.seq (.reg [⟨(some 7), 0, none, .fa (.t 3) 4⟩,
  ⟨(some 8), 0, none, .ld (.t 7) none⟩,
  ⟨(some 9), 0, none, .len false (.t 8)⟩,
  ⟨(some 10), 0, none, .mv (.t 1)⟩,
  ⟨(some 11), 0, none, .bin .geq (.t 9) (.t 10)⟩,
  ⟨(some 12), 0, none, .mv (.t 11)⟩,
  ⟨(some 13), 0, (some (12, true)), .fa (.t 3) 4⟩,
  ⟨(some 14), 0, (some (12, true)), .ld (.t 13) none⟩,
  ⟨(some 15), 0, (some (12, true)), .len false (.t 14)⟩,
  ⟨(some 16), 0, (some (12, true)), .mv (.t 2)⟩,
  ⟨(some 17), 0, (some (12, true)), .bin .leq (.t 15) (.t 16)⟩,
  ⟨(some 18), 0, none, .pick (.t 12) (.t 17) (.c (.bool false))⟩,
  ⟨(some 19), 0, none, .mv (.t 18)⟩,
  ⟨(some 20), 0, (some (19, true)), .fa (.t 3) 4⟩,
  ⟨(some 21), 0, (some (19, true)), .ld (.t 20) none⟩,
  ⟨(some 22), 2, (some (19, true)), .call (.c (.fn 130)) [((.t 21), .view 1)]⟩,
  ⟨(some 23), 0, none, .pick (.t 19) (.t 22) (.c (.bool false))⟩,
  ⟨(some 6), 0, none, .mv (.t 23)⟩]) .ret))
def rs118 : List (Nat × Option Nat × Mode) := [(6, none, .plain)]
theorem chk118 : chkC Try.prog Try.f118.ntmps b118 (Try.f118.body.getD .skip) = true := by decide +kernel
theorem top118 {args : List Arg} {out : Out} (ha : args.length.ble Try.f118.ntmps = true) (h8 : args.length.ble 8 = true) (mss : List (List (Option Nat))) (hb : backOK args out.back)
    (hw : rnC Try.prog b118 (topQ rs118 args mss out) (slotsOf (argsAV argBase args 0) 0) (argsOb argBase args 0)) : CW Try.prog 118 args out :=
  CW.of Try.func118 rs118 mss (by decide +kernel) (by decide +kernel) (by decide +kernel) ha h8 chk118 hb hw
/- (endonym/table.spare).nothing -/
def b117 : IC := (.seq (.reg [⟨(some 2), 1, none, .box (.t 0)⟩,
  ⟨(some 3), 2, none, .box (.t 1)⟩,
  ⟨(some 4), 0, none, .mv (.c (.bool false))⟩]) (.seq (.seq (.reg [⟨(some 5), 0, none, .fa (.t 2) 0⟩,
  ⟨(some 6), 0, none, .ld (.t 5) none⟩,
  ⟨(some 7), 0, none, .mv (.t 6)⟩,
  ⟨(some 8), 0, (some (7, true)), .fa (.t 3) 3⟩,
  ⟨(some 9), 0, (some (7, true)), .ld (.t 8) none⟩,
  ⟨(some 10), 0, (some (7, true)), .bin .neq (.t 9) (.c (.int .i64 0))⟩,
  ⟨(some 11), 0, none, .pick (.t 7) (.t 10) (.c (.bool false))⟩,
  ⟨(some 12), 0, none, .mv (.t 11)⟩,
  ⟨(some 13), 0, (some (12, false)), .fa (.t 2) 1⟩,
  ⟨(some 14), 0, (some (12, false)), .ld (.t 13) none⟩,
  ⟨(some 15), 0, (some (12, false)), .mv (.t 14)⟩,
  ⟨(some 16), 0, (some (15, true)), .fa (.t 3) 4⟩,
  ⟨(some 17), 0, (some (15, true)), .ld (.t 16) none⟩,
  ⟨(some 18), 0, (some (15, true)), .len false (.t 17)⟩,
  ⟨(some 19), 0, (some (15, true)), .bin .gtr (.t 18) (.c (.int .i64 0))⟩,
  ⟨(some 20), 0, (some (12, false)), .pick (.t 15) (.t 19) (.c (.bool false))⟩,
  ⟨(some 21), 0, none, .pick (.t 12) (.c (.bool true)) (.t 20)⟩]) (.cond (.t 21) (.seq (.reg [⟨(some 4), 0, none, .mv (.c (.bool false))⟩]) .ret) .skip)) (.seq (.reg [⟨(some 22), 0, none, .fa (.t 2) 2⟩,
  ⟨(some 23), 0, none, .ld (.t 22) none⟩,
  ⟨(some 24), 0, none, .mv (.t 23)⟩,
  ⟨(some 25), 0, (some (24, true)), .fa (.t 3) 5⟩,
  ⟨(some 26), 0, (some (24, true)), .ld (.t 25) none⟩,
  ⟨(some 27), 0, (some (24, true)), .bin .neq (.t 26) (.c (.str ⟨#[]⟩))⟩,
  ⟨(some 28), 0, none, .pick (.t 24) (.t 27) (.c (.bool false))⟩,
  ⟨(some 29), 0, none, .mv (.t 28)⟩,
  ⟨(some 30), 0, (some (29, false)), .fa (.t 3) 6⟩,
  ⟨(some 31), 0, (some (29, false)), .ld (.t 30) none⟩,
  ⟨(some 32), 0, (some (29, false)), .bin .neq (.t 31) (.c (.str ⟨#[]⟩))⟩,
  ⟨(some 33), 0, (some (29, false)), .mv (.t 32)⟩,
  ⟨(some 34), 0, (some (33, true)), .fa (.t 3) 0⟩,
  ⟨(some 35), 0, (some (33, true)), .ld (.t 34) none⟩,
  ⟨(some 36), 0, (some (33, true)), .bin .neq (.t 35) (.c (.int .i64 15))⟩,
  ⟨(some 37), 0, (some (29, false)), .pick (.t 33) (.t 36) (.c (.bool false))⟩,
  ⟨(some 38), 0, none, .pick (.t 29) (.c (.bool true)) (.t 37)⟩,
  ⟨(some 39), 0, none, .mv (.t 38)⟩,
  ⟨(some 40), 0, (some (39, false)), .fa (.t 2) 3⟩,
  ⟨(some 41), 0, (some (39, false)), .ld (.t 40) none⟩,
  ⟨(some 42), 0, (some (39, false)), .mv (.t 41)⟩,
  ⟨(some 43), 0, (some (42, true)), .fa (.t 3) 7⟩,
  ⟨(some 44), 0, (some (42, true)), .ld (.t 43) none⟩,
  ⟨(some 45), 3, (some (42, true)), .call (.c (.fn 69)) [((.t 44), .plain)]⟩,
  ⟨(some 46), 0, (some (42, true)), .bin .neq (.t 45) (.c (.int .u64 0))⟩,
  ⟨(some 47), 0, (some (39, false)), .pick (.t 42) (.t 46) (.c (.bool false))⟩,
  ⟨(some 48), 0, none, .pick (.t 39) (.c (.bool true)) (.t 47)⟩,
  ⟨(some 49), 0, none, .not (.t 48)⟩,
  ⟨(some 4), 0, none, .mv (.t 49)⟩]) .ret)))
def rs117 : List (Nat × Option Nat × Mode) := [(4, none, .plain)]
theorem chk117 : chkC Try.prog Try.f117.ntmps b117 (Try.f117.body.getD .skip) = true := by decide +kernel
theorem top117 {args : List Arg} {out : Out} (ha : args.length.ble Try.f117.ntmps = true) (h8 : args.length.ble 8 = true) (mss : List (List (Option Nat))) (hb : backOK args out.back)
    (hw : rnC Try.prog b117 (topQ rs117 args mss out) (slotsOf (argsAV argBase args 0) 0) (argsOb argBase args 0)) : CW Try.prog 117 args out :=
  CW.of Try.func117 rs117 mss (by decide +kernel) (by decide +kernel) (by decide +kernel) ha h8 chk117 hb hw
/- endonym/table.shifts -/
def b119 : IC := (.seq (.reg [⟨(some 1), 1, none, .box (.t 0)⟩,
  ⟨(some 2), 0, none, .mv (.c (.bool false))⟩]) (.seq (.seq (.reg [⟨(some 4), 0, none, .ld (.t 1) (some 8)⟩,
  ⟨(some 5), 2, none, .call (.c (.fn 121)) [((.t 4), .plain), ((.c (.int .i64 1)), .plain), ((.c (.int .i64 64)), .plain)]⟩,
  ⟨(some 6), 0, none, .not (.t 5)⟩,
  ⟨(some 7), 0, none, .mv (.t 6)⟩,
  ⟨(some 8), 0, (some (7, false)), .fa (.t 1) 4⟩,
  ⟨(some 9), 0, (some (7, false)), .ld (.t 8) none⟩,
  ⟨(some 10), 0, (some (7, false)), .len false (.t 9)⟩,
  ⟨(some 11), 0, (some (7, false)), .bin .neq (.t 10) (.c (.int .i64 1))⟩,
  ⟨(some 12), 0, none, .pick (.t 7) (.c (.bool true)) (.t 11)⟩,
  ⟨(some 13), 0, none, .mv (.t 12)⟩,
  ⟨(some 14), 0, (some (13, false)), .fa (.t 1) 4⟩,
  ⟨(some 15), 0, (some (13, false)), .ld (.t 14) none⟩,
  ⟨(some 16), 0, (some (13, false)), .ia (.t 15) (.c (.int .i64 0)) 1⟩,
  ⟨(some 17), 0, (some (13, false)), .ld (.t 16) none⟩,
  ⟨(some 18), 12, (some (13, false)), .call (.c (.fn 131)) [((.t 17), .plain)]⟩,
  ⟨(some 19), 0, (some (13, false)), .not (.t 18)⟩,
  ⟨(some 20), 0, none, .pick (.t 13) (.c (.bool true)) (.t 19)⟩]) (.cond (.t 20) (.seq (.reg [⟨(some 2), 0, none, .mv (.c (.bool false))⟩]) .ret) .skip)) (.seq (.draw (.take 0 ⟨(some 21), 0, none, .fa (.t 1) 4⟩ (.take 1 ⟨(some 22), 0, none, .ld (.t 21) none⟩ (.take 2 ⟨(some 23), 0, none, .ia (.t 22) (.c (.int .i64 0)) 1⟩ (.take 3 ⟨(some 24), 0, none, .ld (.t 23) none⟩ (.take 4 ⟨(some 25), 0, none, .fa (.t 1) 2⟩ (.take 5 ⟨(some 26), 0, none, .ld (.t 25) none⟩ (.take 6 ⟨(some 27), 0, none, .fa (.t 1) 1⟩ (.take 7 ⟨(some 28), 0, none, .ld (.t 27) none⟩ (.take 8 ⟨(some 29), 0, none, .bin .sub (.t 26) (.t 28)⟩ (.take 9 ⟨(some 30), 0, none, .conv .i32 (.t 29)⟩ (.take 10 ⟨(some 31), 0, none, .bin .add (.t 24) (.t 30)⟩ (.take 11 ⟨(some 3), 0, none, .mv (.t 31)⟩ .done))))))))))))) (.seq (.reg [⟨(some 32), 0, none, .mv (.t 3)⟩,
  ⟨(some 33), 22, none, .call (.c (.fn 131)) [((.t 32), .plain)]⟩,
  ⟨(some 34), 0, none, .mv (.t 33)⟩,
  ⟨(some 35), 0, (some (34, true)), .mv (.t 3)⟩,
  ⟨(some 36), 0, (some (34, true)), .bin .lss (.t 35) (.c (.int .i32 55296))⟩,
  ⟨(some 37), 0, (some (34, true)), .fa (.t 1) 4⟩,
  ⟨(some 38), 0, (some (34, true)), .ld (.t 37) none⟩,
  ⟨(some 39), 0, (some (34, true)), .ia (.t 38) (.c (.int .i64 0)) 1⟩,
  ⟨(some 40), 0, (some (34, true)), .ld (.t 39) none⟩,
  ⟨(some 41), 0, (some (34, true)), .bin .lss (.t 40) (.c (.int .i32 55296))⟩,
  ⟨(some 42), 0, (some (34, true)), .beq (.t 36) (.t 41)⟩,
  ⟨(some 43), 0, none, .pick (.t 34) (.t 42) (.c (.bool false))⟩,
  ⟨(some 2), 0, none, .mv (.t 43)⟩]) .ret))))
def rs119 : List (Nat × Option Nat × Mode) := [(2, none, .plain)]
theorem chk119 : chkC Try.prog Try.f119.ntmps b119 (Try.f119.body.getD .skip) = true := by decide +kernel
theorem top119 {args : List Arg} {out : Out} (ha : args.length.ble Try.f119.ntmps = true) (h8 : args.length.ble 8 = true) (mss : List (List (Option Nat))) (hb : backOK args out.back)
    (hw : rnC Try.prog b119 (topQ rs119 args mss out) (slotsOf (argsAV argBase args 0) 0) (argsOb argBase args 0)) : CW Try.prog 119 args out :=
  CW.of Try.func119 rs119 mss (by decide +kernel) (by decide +kernel) (by decide +kernel) ha h8 chk119 hb hw

/-- Scalar values all. -/
theorem w130 (l : List Int) (hn : l.length < 9223372036854775808) (Q : Ex → Slots → LH → Prop) (hQ : ∀ σ H, Slots.get σ 2 = .c (.bool (l.all valid)) → Q .ret σ H) : rnC Try.prog b130 Q [(0, .c (.sl 1 (runes l)))] [] := by
  unfold b130
  simp only [go_sem, ↓reduceIte, Nat.reduceEqDiff, Nat.reduceMul, Nat.reduceAdd, Nat.reduceDiv, Nat.reduceSub, Nat.reduceLT, Nat.reduceLeDiff, Int.reduceLE, Int.reduceLT, Int.reduceToNat, Int.reduceEq]
  refine loopR.by (α := Nat) (fun k => [(5, .c (.sl 1 (runes l))), (6, .c (.int .i64 l.length)), (7, .c (.int .i64 k))]) (fun _ => []) (fun k => l.length - k)
    (fun k => k ≤ l.length ∧ (l.drop k).all valid = l.all valid) 0 ⟨by omega, rfl⟩ ?_ ?_
  · intro Y hY
    simp only [go_sem, ↓reduceIte, Nat.reduceEqDiff, Nat.reduceMul, Nat.reduceAdd, Nat.reduceDiv, Nat.reduceSub, Nat.reduceLT, Nat.reduceLeDiff, Int.reduceLE, Int.reduceLT, Int.reduceToNat, Int.reduceEq, n130_0]
    exact hY
  · intro k hk Y hY
    unfold l130_0
    rcases Nat.lt_or_ge k l.length with hlt | hge
    · obtain ⟨c, e, hm, hd⟩ := runes_at hlt
      have hf := hk.2
      rw [hd, List.all_cons] at hf
      simp only [go_sem, ↓reduceIte, Nat.reduceEqDiff, Nat.reduceMul, Nat.reduceAdd, Nat.reduceDiv, Nat.reduceSub, Nat.reduceLT, Nat.reduceLeDiff, Int.reduceLE, Int.reduceLT, Int.reduceToNat, Int.reduceEq, n130_0, e]
      refine ⟨fun _ => ⟨by omega, ?_⟩, fun h => by omega⟩
      refine callK_1 _ (fun _ => cw131 _) (by simp only [go_sem, ↓reduceIte, Nat.reduceEqDiff, Nat.reduceMul, Nat.reduceAdd, Nat.reduceDiv, Nat.reduceSub, Nat.reduceLT, Nat.reduceLeDiff, Int.reduceLE, Int.reduceLT, Int.reduceToNat, Int.reduceEq]) rfl rfl ?_
      simp only [go_sem, ↓reduceIte, Nat.reduceEqDiff, Nat.reduceMul, Nat.reduceAdd, Nat.reduceDiv, Nat.reduceSub, Nat.reduceLT, Nat.reduceLeDiff, Int.reduceLE, Int.reduceLT, Int.reduceToNat, Int.reduceEq]
      rw [succ64 hlt hn]
      refine ⟨fun h1 => hQ _ _ ?_, fun h1 => hY (k + 1) ⟨hlt, ?_⟩ (by omega)⟩
      · simp only [go_sem, ↓reduceIte, Nat.reduceEqDiff, Nat.reduceMul, Nat.reduceAdd, Nat.reduceDiv, Nat.reduceSub, Nat.reduceLT, Nat.reduceLeDiff, Int.reduceLE, Int.reduceLT, Int.reduceToNat, Int.reduceEq, ← hf, h1, Bool.false_and]
      · rw [← hf, h1, Bool.true_and]
    · simp only [go_sem, ↓reduceIte, Nat.reduceEqDiff, Nat.reduceMul, Nat.reduceAdd, Nat.reduceDiv, Nat.reduceSub, Nat.reduceLT, Nat.reduceLeDiff, Int.reduceLE, Int.reduceLT, Int.reduceToNat, Int.reduceEq, n130_0]
      refine ⟨fun h => by omega, fun _ => hQ _ _ ?_⟩
      have : k = l.length := by omega
      subst this
      have hf := hk.2
      rw [List.drop_length, List.all_nil] at hf
      simp only [go_sem, ↓reduceIte, Nat.reduceEqDiff, Nat.reduceMul, Nat.reduceAdd, Nat.reduceDiv, Nat.reduceSub, Nat.reduceLT, Nat.reduceLeDiff, Int.reduceLE, Int.reduceLT, Int.reduceToNat, Int.reduceEq, ← hf]
theorem cw130 (l : List Int) (hn : l.length < 9223372036854775808) : CW Try.prog 130 [.cv (.sl 1 (runes l))] ⟨[.cv (.bool (l.all valid))], []⟩ := top130 rfl rfl [] trivial (w130 l hn _ fun σ H h => ret1 rfl h)

def soundR (r : Rec) (least most : Int) : Bool := decide (least ≤ r.to.length) && decide ((r.to.length : Int) ≤ most) && r.to.all valid
theorem w118 (r : Rec) (least most : Int) (hn : r.to.length < 9223372036854775808) (Q : Ex → Slots → LH → Prop) (hQ : ∀ σ H, Slots.get σ 6 = .c (.bool (soundR r least most)) → Q .ret σ H) : rnC Try.prog b118 Q [(0, .c r.cv), (1, .c (.int .i64 least)), (2, .c (.int .i64 most))] [] := by
  unfold b118
  simp only [go_sem, ↓reduceIte, Nat.reduceEqDiff, Nat.reduceMul, Nat.reduceAdd, Nat.reduceDiv, Nat.reduceSub, Nat.reduceLT, Nat.reduceLeDiff, Int.reduceLE, Int.reduceLT, Int.reduceToNat, Int.reduceEq]
  refine callK_1 _ (fun _ => cw130 r.to hn) (by simp only [go_sem, ↓reduceIte, Nat.reduceEqDiff, Nat.reduceMul, Nat.reduceAdd, Nat.reduceDiv, Nat.reduceSub, Nat.reduceLT, Nat.reduceLeDiff, Int.reduceLE, Int.reduceLT, Int.reduceToNat, Int.reduceEq]) rfl rfl ?_
  simp only [go_sem, ↓reduceIte, Nat.reduceEqDiff, Nat.reduceMul, Nat.reduceAdd, Nat.reduceDiv, Nat.reduceSub, Nat.reduceLT, Nat.reduceLeDiff, Int.reduceLE, Int.reduceLT, Int.reduceToNat, Int.reduceEq]
  exact hQ _ _ rfl
theorem cw118 (r : Rec) (least most : Int) (hn : r.to.length < 9223372036854775808) : CW Try.prog 118 [.cv r.cv, .cv (.int .i64 least), .cv (.int .i64 most)] ⟨[.cv (.bool (soundR r least most))], []⟩ :=
  top118 rfl rfl [] trivial (w118 r least most hn _ fun σ H h => ret1 rfl h)
/-- The fields that a kind does not have are nothing. -/
def noneR (n t m w : Bool) (r : Rec) : Bool :=
  if n = true ∧ ¬r.n = 0 ∨ t = true ∧ (0 : Int) < r.to.length then false
  else !(m && !decide (r.name.data.toList = []) || !decide (r.other.data.toList = []) && !decide (r.kind = 15) || w && (r.weight : Int) != 0)
theorem w117 (n t m w : Bool) (r : Rec) (Q : Ex → Slots → LH → Prop) (hQ : ∀ σ H, Slots.get σ 4 = .c (.bool (noneR n t m w r)) → Q .ret σ H) : rnC Try.prog b117 Q [(0, .c (.agg [.bool n, .bool t, .bool m, .bool w])), (1, .c r.cv)] [] := by
  unfold b117
  simp only [go_sem, ↓reduceIte, Nat.reduceEqDiff, Nat.reduceMul, Nat.reduceAdd, Nat.reduceDiv, Nat.reduceSub, Nat.reduceLT, Nat.reduceLeDiff, Int.reduceLE, Int.reduceLT, Int.reduceToNat, Int.reduceEq]
  refine ⟨fun h1 h2 => ⟨h1, h2⟩, fun h => hQ _ _ ?_, fun h => ⟨fun h1 h2 => ⟨h1, h2⟩, ?_⟩⟩
  · unfold noneR
    rw [if_pos h]
    rfl
  · refine callK_1 _ (fun _ => cw69 _) (by simp only [go_sem, ↓reduceIte, Nat.reduceEqDiff, Nat.reduceMul, Nat.reduceAdd, Nat.reduceDiv, Nat.reduceSub, Nat.reduceLT, Nat.reduceLeDiff, Int.reduceLE, Int.reduceLT, Int.reduceToNat, Int.reduceEq]) rfl rfl ?_
    simp only [go_sem, ↓reduceIte, Nat.reduceEqDiff, Nat.reduceMul, Nat.reduceAdd, Nat.reduceDiv, Nat.reduceSub, Nat.reduceLT, Nat.reduceLeDiff, Int.reduceLE, Int.reduceLT, Int.reduceToNat, Int.reduceEq]
    refine ⟨fun h1 h2 => ⟨h1, h2⟩, hQ _ _ ?_⟩
    simp only [go_sem, ↓reduceIte, Nat.reduceEqDiff, Nat.reduceMul, Nat.reduceAdd, Nat.reduceDiv, Nat.reduceSub, Nat.reduceLT, Nat.reduceLeDiff, Int.reduceLE, Int.reduceLT, Int.reduceToNat, Int.reduceEq]
    unfold noneR
    rw [if_neg]
    rintro (⟨h1, h2⟩ | ⟨h1, h2⟩)
    · rcases h.1 with h3 | h3
      · rw [h1] at h3; cases h3
      · exact h2 h3
    · rcases h.2 with h3 | h3
      · rw [h1] at h3; cases h3
      · omega
theorem cw117 (n t m w : Bool) (r : Rec) : CW Try.prog 117 [.cv (.agg [.bool n, .bool t, .bool m, .bool w]), .cv r.cv] ⟨[.cv (.bool (noneR n t m w r))], []⟩ :=
  top117 rfl rfl [] trivial (w117 n t m w r _ fun σ H h => ret1 rfl h)
/-- A shift's step and numbers may be. -/
def shiftsR (r : Rec) : Bool :=
  match r.to with
  | [a] =>
    let e := IntKind.i32.wrap (a + IntKind.i32.wrap (IntKind.i64.wrap (r.hi - r.lo)))
    decide (1 ≤ r.n) && decide (r.n ≤ 64) && valid a && valid e && (decide (e < 55296) == decide (a < 55296))
  | _ => false
theorem w119 (r : Rec) (Q : Ex → Slots → LH → Prop) (hQ : ∀ σ H, Slots.get σ 2 = .c (.bool (shiftsR r)) → Q .ret σ H) : rnC Try.prog b119 Q [(0, .c (Rec.cv r))] [] := by
  unfold b119
  simp only [go_sem, ↓reduceIte, Nat.reduceEqDiff, Nat.reduceMul, Nat.reduceAdd, Nat.reduceDiv, Nat.reduceSub, Nat.reduceLT, Nat.reduceLeDiff, Int.reduceLE, Int.reduceLT, Int.reduceToNat, Int.reduceEq]
  refine callK_1 _ (fun _ => cw121 r _ _) (by simp only [go_sem, ↓reduceIte, Nat.reduceEqDiff, Nat.reduceMul, Nat.reduceAdd, Nat.reduceDiv, Nat.reduceSub, Nat.reduceLT, Nat.reduceLeDiff, Int.reduceLE, Int.reduceLT, Int.reduceToNat, Int.reduceEq]) rfl rfl ?_
  simp only [go_sem, ↓reduceIte, Nat.reduceEqDiff, Nat.reduceMul, Nat.reduceAdd, Nat.reduceDiv, Nat.reduceSub, Nat.reduceLT, Nat.reduceLeDiff, Int.reduceLE, Int.reduceLT, Int.reduceToNat, Int.reduceEq]
  repeat (refine ⟨by (first | omega | (intro h1 h2; exact ⟨h1, h2⟩) | (intro h1; omega) | (intro h1; exact h1) | trivial), ?_⟩)
  cases hto : r.to with
  | nil =>
    have e0 : (runes ([] : List Int)).getD 0 .undef = .undef := rfl
    have hs : shiftsR r = false := by unfold shiftsR; rw [hto]
    rw [hs] at hQ
    simp only [go_sem, ↓reduceIte, Nat.reduceEqDiff, Nat.reduceMul, Nat.reduceAdd, Nat.reduceDiv, Nat.reduceSub, Nat.reduceLT, Nat.reduceLeDiff, Int.reduceLE, Int.reduceLT, Int.reduceToNat, Int.reduceEq, e0, List.length_nil]
    repeat (refine ⟨by (first | omega | (intro h1 h2; exact ⟨h1, h2⟩) | (intro h1; omega) | (intro h1; exact h1) | trivial), ?_⟩)
    refine callK_1 (.bool false) (fun h => by simp at h) (by simp only [go_sem, ↓reduceIte, Nat.reduceEqDiff, Nat.reduceMul, Nat.reduceAdd, Nat.reduceDiv, Nat.reduceSub, Nat.reduceLT, Nat.reduceLeDiff, Int.reduceLE, Int.reduceLT, Int.reduceToNat, Int.reduceEq]) rfl rfl ?_
    simp only [go_sem, ↓reduceIte, Nat.reduceEqDiff, Nat.reduceMul, Nat.reduceAdd, Nat.reduceDiv, Nat.reduceSub, Nat.reduceLT, Nat.reduceLeDiff, Int.reduceLE, Int.reduceLT, Int.reduceToNat, Int.reduceEq]
    exact hQ _ _ rfl
  | cons a l =>
    have e0 : (runes (a :: l)).getD 0 .undef = .int .i32 a := rfl
    simp only [go_sem, ↓reduceIte, Nat.reduceEqDiff, Nat.reduceMul, Nat.reduceAdd, Nat.reduceDiv, Nat.reduceSub, Nat.reduceLT, Nat.reduceLeDiff, Int.reduceLE, Int.reduceLT, Int.reduceToNat, Int.reduceEq, e0]
    repeat (refine ⟨by (first | omega | (intro h1 h2; exact ⟨h1, h2⟩) | (intro h1; omega) | (intro h1; exact h1) | trivial), ?_⟩)
    refine callK_1 _ (fun _ => cw131 a) (by simp only [go_sem, ↓reduceIte, Nat.reduceEqDiff, Nat.reduceMul, Nat.reduceAdd, Nat.reduceDiv, Nat.reduceSub, Nat.reduceLT, Nat.reduceLeDiff, Int.reduceLE, Int.reduceLT, Int.reduceToNat, Int.reduceEq]) rfl rfl ?_
    simp only [go_sem, ↓reduceIte, Nat.reduceEqDiff, Nat.reduceMul, Nat.reduceAdd, Nat.reduceDiv, Nat.reduceSub, Nat.reduceLT, Nat.reduceLeDiff, Int.reduceLE, Int.reduceLT, Int.reduceToNat, Int.reduceEq]
    repeat (refine ⟨by (first | omega | (intro h1 h2; exact ⟨h1, h2⟩) | (intro h1; omega) | (intro h1; exact h1) | trivial), ?_⟩)
    refine ⟨fun h => hQ _ _ ?_, fun h => ?_⟩
    · simp only [go_sem, ↓reduceIte, Nat.reduceEqDiff, Nat.reduceMul, Nat.reduceAdd, Nat.reduceDiv, Nat.reduceSub, Nat.reduceLT, Nat.reduceLeDiff, Int.reduceLE, Int.reduceLT, Int.reduceToNat, Int.reduceEq, shiftsR, hto]
      split
      · rename_i a' e
        cases e
        rcases h with h | h
        · have : (decide (1 ≤ r.n) && decide (r.n ≤ 64)) = false := by
            simp only [List.length_nil] at h
            rw [Bool.and_eq_false_iff, decide_eq_false_iff_not, decide_eq_false_iff_not]
            omega
          simp [this]
        · simp [h]
      · rfl
    · have hl : l = [] := by
        have := h.1.2
        cases l with
        | nil => rfl
        | cons => simp at this; omega
      subst hl
      have e1 : (runes [a]).getD 0 .undef = .int .i32 a := rfl
      simp only [go_sem, ↓reduceIte, Nat.reduceEqDiff, Nat.reduceMul, Nat.reduceAdd, Nat.reduceDiv, Nat.reduceSub, Nat.reduceLT, Nat.reduceLeDiff, Int.reduceLE, Int.reduceLT, Int.reduceToNat, Int.reduceEq, e1]
      repeat (refine ⟨by (first | omega | (intro h1 h2; exact ⟨h1, h2⟩) | (intro h1; omega) | (intro h1; exact h1) | trivial), ?_⟩)
      refine callK_1 _ (fun _ => cw131 _) (by simp only [go_sem, ↓reduceIte, Nat.reduceEqDiff, Nat.reduceMul, Nat.reduceAdd, Nat.reduceDiv, Nat.reduceSub, Nat.reduceLT, Nat.reduceLeDiff, Int.reduceLE, Int.reduceLT, Int.reduceToNat, Int.reduceEq]) rfl rfl ?_
      simp only [go_sem, ↓reduceIte, Nat.reduceEqDiff, Nat.reduceMul, Nat.reduceAdd, Nat.reduceDiv, Nat.reduceSub, Nat.reduceLT, Nat.reduceLeDiff, Int.reduceLE, Int.reduceLT, Int.reduceToNat, Int.reduceEq, e1]
      repeat (refine ⟨by (first | omega | (intro h1 h2; exact ⟨h1, h2⟩) | (intro h1; omega) | (intro h1; exact h1) | trivial), ?_⟩)
      refine hQ _ _ ?_
      simp only [go_sem, ↓reduceIte, Nat.reduceEqDiff, Nat.reduceMul, Nat.reduceAdd, Nat.reduceDiv, Nat.reduceSub, Nat.reduceLT, Nat.reduceLeDiff, Int.reduceLE, Int.reduceLT, Int.reduceToNat, Int.reduceEq, shiftsR, hto]
      have := h.1.1
      have h1 : decide (1 ≤ r.n) = true := by simpa using this.1
      have h2 : decide (r.n ≤ 64) = true := by simpa using this.2
      simp [h1, h2, h.2]
theorem cw119 (r : Rec) : CW Try.prog 119 [.cv (Rec.cv r)] ⟨[.cv (.bool (shiftsR r))], []⟩ :=
  top119 rfl rfl [] trivial (w119 r _ fun σ H h => ret1 rfl h)
end Go.Proofs.Ytcpdnpaedkcebaa.V
