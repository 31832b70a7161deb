/- Contracts: the reference's canon.Check; canon's hangul, pairs. -/
import Derived.Test.YtcpdnpaedkcebaaXe
namespace Go.Proofs.Ytcpdnpaedkcebaa.V
open Go Go.RowKit
set_option linter.unusedVariables false
set_option linter.unusedSimpArgs false
set_option maxRecDepth 100000
/- endonym/endonymref7.Check -/
def l27_0 : IC := (.seq (.seq (.reg [⟨(some 18), 0, none, .mv (.t 6)⟩,
  ⟨(some 19), 0, none, .mv (.t 0)⟩,
  ⟨(some 20), 0, none, .len false (.t 19)⟩,
  ⟨(some 21), 0, none, .bin .lss (.t 18) (.t 20)⟩]) (.cond (.t 21) .skip (.exit 0))) (.seq (.block 1 (.seq (.reg [⟨(some 24), 0, none, .mv (.t 0)⟩,
  ⟨(some 25), 0, none, .mv (.t 6)⟩,
  ⟨(some 26), 11, none, .call (.c (.fn 52)) [((.t 24), .view 8), ((.t 25), .plain)]⟩,
  ⟨(some 7), 0, none, .mv (.t 26)⟩]) (.seq (.reg [⟨(some 27), 0, none, .mv (.t 7)⟩,
  ⟨(some 28), 0, none, .bin .neq (.t 27) (.c (.int .i64 0))⟩]) (.cond (.t 28) (.seq (.reg [⟨(some 29), 0, none, .mv (.t 6)⟩,
  ⟨(some 30), 0, none, .mv (.t 7)⟩,
  ⟨(some 2), 0, none, .mv (.t 29)⟩,
  ⟨(some 3), 0, none, .mv (.t 30)⟩]) .ret) .skip)))) (.reg [⟨(some 22), 0, none, .mv (.t 6)⟩,
  ⟨(some 23), 0, none, .bin .add (.t 22) (.c (.int .i64 1))⟩,
  ⟨(some 6), 0, none, .mv (.t 23)⟩])))
def n27_0 : Norm := ⟨[(0, .plain), (6, .plain)], []⟩
def l27_1 : IC := (.seq (.seq (.reg [⟨(some 31), 0, none, .mv (.t 8)⟩,
  ⟨(some 32), 0, none, .bin .leq (.t 31) (.c (.int .i32 122))⟩]) (.cond (.t 32) .skip (.exit 2))) (.seq (.block 3 (.seq (.reg [⟨(some 35), 0, none, .mv (.t 8)⟩,
  ⟨(some 36), 0, none, .bin .eql (.t 35) (.c (.int .i32 45))⟩,
  ⟨(some 37), 0, none, .mv (.t 36)⟩,
  ⟨(some 38), 0, (some (37, false)), .mv (.t 8)⟩,
  ⟨(some 39), 0, (some (37, false)), .bin .eql (.t 38) (.c (.int .i32 46))⟩,
  ⟨(some 40), 0, none, .pick (.t 37) (.c (.bool true)) (.t 39)⟩,
  ⟨(some 41), 0, none, .mv (.t 40)⟩,
  ⟨(some 42), 0, (some (41, false)), .mv (.t 8)⟩,
  ⟨(some 43), 0, (some (41, false)), .bin .geq (.t 42) (.c (.int .i32 48))⟩,
  ⟨(some 44), 0, (some (41, false)), .mv (.t 43)⟩,
  ⟨(some 45), 0, (some (44, true)), .mv (.t 8)⟩,
  ⟨(some 46), 0, (some (44, true)), .bin .leq (.t 45) (.c (.int .i32 57))⟩,
  ⟨(some 47), 0, (some (41, false)), .pick (.t 44) (.t 46) (.c (.bool false))⟩,
  ⟨(some 48), 0, none, .pick (.t 41) (.c (.bool true)) (.t 47)⟩,
  ⟨(some 49), 0, none, .mv (.t 48)⟩,
  ⟨(some 50), 0, (some (49, false)), .mv (.t 8)⟩,
  ⟨(some 51), 0, (some (49, false)), .bin .geq (.t 50) (.c (.int .i32 97))⟩,
  ⟨(some 52), 0, none, .pick (.t 49) (.c (.bool true)) (.t 51)⟩,
  ⟨(some 53), 0, none, .mv (.t 52)⟩,
  ⟨(some 54), 0, (some (53, true)), .mv (.t 0)⟩,
  ⟨(some 55), 0, (some (53, true)), .mv (.t 8)⟩,
  ⟨(some 56), 21, (some (53, true)), .call (.c (.fn 53)) [((.t 54), .view 8), ((.t 55), .plain)]⟩,
  ⟨(some 57), 0, (some (53, true)), .not (.t 56)⟩,
  ⟨(some 58), 0, none, .pick (.t 53) (.t 57) (.c (.bool false))⟩]) (.cond (.t 58) (.seq (.reg [⟨(some 59), 0, none, .mv (.t 0)⟩,
  ⟨(some 60), 0, none, .len false (.t 59)⟩,
  ⟨(some 2), 0, none, .mv (.t 60)⟩,
  ⟨(some 3), 0, none, .mv (.c (.int .i64 70))⟩]) .ret) .skip))) (.reg [⟨(some 33), 0, none, .mv (.t 8)⟩,
  ⟨(some 34), 0, none, .bin .add (.t 33) (.c (.int .i32 1))⟩,
  ⟨(some 8), 0, none, .mv (.t 34)⟩])))
def n27_1 : Norm := ⟨[(0, .plain), (8, .plain)], []⟩
def b27 : IC := (.seq (.reg [⟨(some 2), 0, none, .mv (.c (.int .i64 0))⟩,
  ⟨(some 3), 0, none, .mv (.c (.int .i64 0))⟩]) (.seq (.reg [⟨(some 10), 0, none, .mv (.t 0)⟩,
  ⟨(some 11), 1, none, .call (.c (.fn 51)) [((.t 10), .view 8)]⟩,
  ⟨(some 9), 0, none, .mv (.t 11)⟩,
  ⟨(some 12), 0, none, .ext (.t 9) 0⟩,
  ⟨(some 13), 0, none, .ext (.t 9) 1⟩,
  ⟨(some 4), 0, none, .mv (.t 12)⟩,
  ⟨(some 5), 0, none, .mv (.t 13)⟩]) (.seq (.seq (.reg [⟨(some 14), 0, none, .mv (.t 5)⟩,
  ⟨(some 15), 0, none, .bin .neq (.t 14) (.c (.int .i64 0))⟩]) (.cond (.t 15) (.seq (.reg [⟨(some 16), 0, none, .mv (.t 4)⟩,
  ⟨(some 17), 0, none, .mv (.t 5)⟩,
  ⟨(some 2), 0, none, .mv (.t 16)⟩,
  ⟨(some 3), 0, none, .mv (.t 17)⟩]) .ret) .skip)) (.seq (.seq (.reg [⟨(some 6), 0, none, .mv (.c (.int .i64 0))⟩]) (.block 0 (.loop n27_0 l27_0))) (.seq (.seq (.reg [⟨(some 8), 0, none, .mv (.c (.int .i32 45))⟩]) (.block 2 (.loop n27_1 l27_1))) (.seq (.reg [⟨(some 2), 0, none, .mv (.c (.int .i64 0))⟩,
  ⟨(some 3), 0, none, .mv (.c (.int .i64 0))⟩]) .ret))))))
def rs27 : List (Nat × Option Nat × Mode) := [(2, none, .plain), (3, none, .plain)]
theorem chk27 : chkC Try.prog Try.f27.ntmps b27 (Try.f27.body.getD .skip) = true := by decide +kernel
theorem top27 {args : List Arg} {out : Out} (ha : args.length.ble Try.f27.ntmps = true) (h8 : args.length.ble 8 = true) (mss : List (List (Option Nat))) (hb : backOK args out.back)
    (hw : rnC Try.prog b27 (topQ rs27 args mss out) (slotsOf (argsAV argBase args 0) 0) (argsOb argBase args 0)) : CW Try.prog 27 args out :=
  CW.of Try.func27 rs27 mss (by decide +kernel) (by decide +kernel) (by decide +kernel) ha h8 chk27 hb hw
/- endonym/canon.hangul -/
def l70_0 : IC := (.seq (.reg [⟨(some 14), 0, none, .bin .lss (.t 13) (.t 12)⟩]) (.seq (.cond (.t 14) .skip (.exit 0)) (.seq (.block 1 (.seq (.reg [⟨(some 15), 0, none, .ia (.t 11) (.t 13) 2⟩,
  ⟨(some 16), 0, none, .ld (.t 15) (some 2)⟩,
  ⟨(some 4), 3, none, .alloc [(.int .i64 0), (.int .i64 0)]⟩,
  ⟨none, 0, none, .st (.t 4) (.t 16) (some 2)⟩]) (.seq (.reg [⟨(some 17), 0, none, .fa (.t 1) 1⟩,
  ⟨(some 18), 0, none, .ld (.t 17) none⟩,
  ⟨(some 19), 0, none, .fa (.t 4) 1⟩,
  ⟨(some 20), 0, none, .ld (.t 19) none⟩,
  ⟨(some 21), 0, none, .bin .leq (.t 18) (.t 20)⟩,
  ⟨(some 22), 0, none, .mv (.t 21)⟩,
  ⟨(some 23), 0, (some (22, true)), .fa (.t 1) 2⟩,
  ⟨(some 24), 0, (some (22, true)), .ld (.t 23) none⟩,
  ⟨(some 25), 0, (some (22, true)), .fa (.t 4) 0⟩,
  ⟨(some 26), 0, (some (22, true)), .ld (.t 25) none⟩,
  ⟨(some 27), 0, (some (22, true)), .bin .geq (.t 24) (.t 26)⟩,
  ⟨(some 28), 0, none, .pick (.t 22) (.t 27) (.c (.bool false))⟩]) (.cond (.t 28) (.seq (.reg [⟨(some 2), 0, none, .mv (.c (.bool true))⟩]) .ret) .skip)))) (.reg [⟨(some 29), 0, none, .bin .add (.t 13) (.c (.int .i64 1))⟩,
  ⟨(some 13), 0, none, .mv (.t 29)⟩]))))
def n70_0 : Norm := ⟨[(1, .plain), (11, .own 2 1000011), (12, .plain), (13, .plain)], [(64, [.plain, .plain, .plain, .plain, .plain, .plain, .plain, .plain])]⟩
def b70 : IC := (.seq (.reg [⟨(some 1), 1, none, .box (.t 0)⟩,
  ⟨(some 2), 0, none, .mv (.c (.bool false))⟩]) (.seq (.seq (.reg [⟨(some 7), 0, none, .bld [(.int .i64 0), (.int .i64 0)] [(0, (.c (.int .i64 4352))), (1, (.c (.int .i64 4370)))]⟩,
  ⟨(some 8), 0, none, .bld [(.int .i64 0), (.int .i64 0)] [(0, (.c (.int .i64 4449))), (1, (.c (.int .i64 4469)))]⟩,
  ⟨(some 9), 0, none, .bld [(.int .i64 0), (.int .i64 0)] [(0, (.c (.int .i64 4520))), (1, (.c (.int .i64 4546)))]⟩,
  ⟨(some 10), 0, none, .bld [(.int .i64 0), (.int .i64 0)] [(0, (.c (.int .i64 44032))), (1, (.c (.int .i64 55203)))]⟩,
  ⟨(some 11), 2, none, .bsl 2 [(.t 7), (.t 8), (.t 9), (.t 10)]⟩,
  ⟨(some 12), 0, none, .len false (.t 11)⟩,
  ⟨(some 13), 0, none, .mv (.c (.int .i64 0))⟩]) (.block 0 (.loop n70_0 l70_0))) (.seq (.seq (.reg [⟨(some 30), 0, none, .fa (.t 1) 0⟩,
  ⟨(some 31), 0, none, .ld (.t 30) none⟩,
  ⟨(some 32), 0, none, .bin .neq (.t 31) (.c (.int .i64 7))⟩]) (.cond (.t 32) (.seq (.reg [⟨(some 2), 0, none, .mv (.c (.bool false))⟩]) .ret) .skip)) (.seq (.draw (.take 0 ⟨(some 33), 0, none, .fa (.t 1) 4⟩ (.take 1 ⟨(some 34), 0, none, .ld (.t 33) none⟩ (.take 2 ⟨(some 35), 0, none, .ia (.t 34) (.c (.int .i64 0)) 1⟩ (.take 3 ⟨(some 36), 0, none, .ld (.t 35) none⟩ (.take 4 ⟨(some 37), 0, none, .fa (.t 1) 4⟩ (.take 5 ⟨(some 38), 0, none, .ld (.t 37) none⟩ (.take 6 ⟨(some 39), 0, none, .ia (.t 38) (.c (.int .i64 1)) 1⟩ (.take 7 ⟨(some 40), 0, none, .ld (.t 39) none⟩ (.take 8 ⟨(some 5), 0, none, .mv (.t 36)⟩ (.take 9 ⟨(some 6), 0, none, .mv (.t 40)⟩ .done))))))))))) (.seq (.reg [⟨(some 41), 0, none, .mv (.t 5)⟩,
  ⟨(some 42), 4, none, .call (.c (.fn 109)) [((.t 41), .plain)]⟩,
  ⟨(some 43), 0, none, .mv (.t 42)⟩,
  ⟨(some 44), 0, (some (43, true)), .mv (.t 6)⟩,
  ⟨(some 45), 14, (some (43, true)), .call (.c (.fn 110)) [((.t 44), .plain)]⟩,
  ⟨(some 46), 0, none, .pick (.t 43) (.t 45) (.c (.bool false))⟩,
  ⟨(some 47), 0, none, .mv (.t 46)⟩,
  ⟨(some 48), 0, (some (47, false)), .mv (.t 5)⟩,
  ⟨(some 49), 24, (some (47, false)), .call (.c (.fn 40)) [((.t 48), .plain)]⟩,
  ⟨(some 50), 0, (some (47, false)), .mv (.t 49)⟩,
  ⟨(some 51), 0, (some (50, true)), .mv (.t 5)⟩,
  ⟨(some 52), 0, (some (50, true)), .bin .sub (.t 51) (.c (.int .i32 44032))⟩,
  ⟨(some 53), 0, (some (50, true)), .bin .rem (.t 52) (.c (.int .i32 28))⟩,
  ⟨(some 54), 0, (some (50, true)), .bin .eql (.t 53) (.c (.int .i32 0))⟩,
  ⟨(some 55), 0, (some (47, false)), .pick (.t 50) (.t 54) (.c (.bool false))⟩,
  ⟨(some 56), 0, (some (47, false)), .mv (.t 55)⟩,
  ⟨(some 57), 0, (some (56, true)), .mv (.t 6)⟩,
  ⟨(some 58), 34, (some (56, true)), .call (.c (.fn 111)) [((.t 57), .plain)]⟩,
  ⟨(some 59), 0, (some (47, false)), .pick (.t 56) (.t 58) (.c (.bool false))⟩,
  ⟨(some 60), 0, none, .pick (.t 47) (.c (.bool true)) (.t 59)⟩,
  ⟨(some 2), 0, none, .mv (.t 60)⟩]) .ret)))))
def rs70 : List (Nat × Option Nat × Mode) := [(2, none, .plain)]
theorem chk70 : chkC Try.prog Try.f70.ntmps b70 (Try.f70.body.getD .skip) = true := by decide +kernel
theorem top70 {args : List Arg} {out : Out} (ha : args.length.ble Try.f70.ntmps = true) (h8 : args.length.ble 8 = true) (mss : List (List (Option Nat))) (hb : backOK args out.back)
    (hw : rnC Try.prog b70 (topQ rs70 args mss out) (slotsOf (argsAV argBase args 0) 0) (argsOb argBase args 0)) : CW Try.prog 70 args out :=
  CW.of Try.func70 rs70 mss (by decide +kernel) (by decide +kernel) (by decide +kernel) ha h8 chk70 hb hw
/- endonym/canon.pairs -/
def b71 : IC := (.seq (.reg [⟨(some 3), 1, none, .box (.t 1)⟩,
  ⟨(some 4), 0, none, .mv (.c (.bool false))⟩]) (.seq (.draw (.take 0 ⟨(some 10), 0, none, .fa (.t 3) 4⟩ (.take 1 ⟨(some 11), 0, none, .ld (.t 10) none⟩ (.take 2 ⟨(some 12), 0, none, .ia (.t 11) (.c (.int .i64 0)) 1⟩ (.take 3 ⟨(some 13), 0, none, .ld (.t 12) none⟩ (.take 4 ⟨(some 14), 0, none, .fa (.t 3) 4⟩ (.take 5 ⟨(some 15), 0, none, .ld (.t 14) none⟩ (.take 6 ⟨(some 16), 0, none, .ia (.t 15) (.c (.int .i64 1)) 1⟩ (.take 7 ⟨(some 17), 0, none, .ld (.t 16) none⟩ (.take 8 ⟨(some 5), 0, none, .mv (.t 13)⟩ (.take 9 ⟨(some 6), 0, none, .mv (.t 17)⟩ .done))))))))))) (.seq (.reg [⟨(some 19), 0, none, .mv (.t 0)⟩,
  ⟨(some 20), 0, none, .mv (.t 5)⟩,
  ⟨(some 21), 2, none, .call (.c (.fn 16)) [((.t 19), .view 8), ((.t 20), .plain)]⟩,
  ⟨(some 18), 0, none, .mv (.t 21)⟩,
  ⟨(some 22), 0, none, .ext (.t 18) 0⟩,
  ⟨(some 23), 0, none, .ext (.t 18) 1⟩,
  ⟨(some 24), 0, none, .ext (.t 18) 2⟩,
  ⟨(some 7), 0, none, .mv (.t 22)⟩,
  ⟨(some 8), 0, none, .mv (.t 23)⟩,
  ⟨(some 9), 0, none, .mv (.t 24)⟩]) (.seq (.reg [⟨(some 25), 0, none, .mv (.t 0)⟩,
  ⟨(some 26), 0, none, .fa (.t 3) 1⟩,
  ⟨(some 27), 0, none, .ld (.t 26) none⟩,
  ⟨(some 28), 0, none, .conv .i32 (.t 27)⟩,
  ⟨(some 29), 12, none, .call (.c (.fn 18)) [((.t 25), .view 8), ((.t 28), .plain)]⟩,
  ⟨(some 30), 0, none, .bin .eql (.t 29) (.c (.int .i64 0))⟩,
  ⟨(some 31), 0, none, .mv (.t 30)⟩,
  ⟨(some 32), 0, (some (31, true)), .mv (.t 0)⟩,
  ⟨(some 33), 0, (some (31, true)), .mv (.t 5)⟩,
  ⟨(some 34), 22, (some (31, true)), .call (.c (.fn 18)) [((.t 32), .view 8), ((.t 33), .plain)]⟩,
  ⟨(some 35), 0, (some (31, true)), .bin .eql (.t 34) (.c (.int .i64 0))⟩,
  ⟨(some 36), 0, none, .pick (.t 31) (.t 35) (.c (.bool false))⟩,
  ⟨(some 37), 0, none, .mv (.t 36)⟩,
  ⟨(some 38), 0, (some (37, true)), .mv (.t 0)⟩,
  ⟨(some 39), 0, (some (37, true)), .mv (.t 6)⟩,
  ⟨(some 40), 32, (some (37, true)), .call (.c (.fn 15)) [((.t 38), .view 8), ((.t 39), .plain)]⟩,
  ⟨(some 41), 0, (some (37, true)), .len false (.t 40)⟩,
  ⟨(some 42), 0, (some (37, true)), .bin .eql (.t 41) (.c (.int .i64 0))⟩,
  ⟨(some 43), 0, none, .pick (.t 37) (.t 42) (.c (.bool false))⟩,
  ⟨(some 44), 0, none, .mv (.t 43)⟩,
  ⟨(some 45), 0, (some (44, true)), .mv (.t 0)⟩,
  ⟨(some 46), 0, (some (44, true)), .mv (.t 5)⟩,
  ⟨(some 47), 42, (some (44, true)), .call (.c (.fn 15)) [((.t 45), .view 8), ((.t 46), .plain)]⟩,
  ⟨(some 48), 0, (some (44, true)), .len false (.t 47)⟩,
  ⟨(some 49), 0, (some (44, true)), .bin .eql (.t 48) (.c (.int .i64 0))⟩,
  ⟨(some 50), 0, (some (44, true)), .mv (.t 49)⟩,
  ⟨(some 51), 0, (some (50, false)), .mv (.t 9)⟩,
  ⟨(some 52), 0, (some (44, true)), .pick (.t 50) (.c (.bool true)) (.t 51)⟩,
  ⟨(some 53), 0, none, .pick (.t 44) (.t 52) (.c (.bool false))⟩,
  ⟨(some 54), 0, none, .mv (.t 53)⟩,
  ⟨(some 55), 0, (some (54, true)), .mv (.t 6)⟩,
  ⟨(some 56), 0, (some (54, true)), .bin .geq (.t 55) (.c (.int .i32 128))⟩,
  ⟨(some 57), 0, none, .pick (.t 54) (.t 56) (.c (.bool false))⟩,
  ⟨(some 58), 0, none, .mv (.t 57)⟩,
  ⟨(some 59), 0, (some (58, true)), .mv (.t 5)⟩,
  ⟨(some 60), 0, (some (58, true)), .bin .neq (.t 59) (.c (.int .i32 46))⟩,
  ⟨(some 61), 0, none, .pick (.t 58) (.t 60) (.c (.bool false))⟩,
  ⟨(some 4), 0, none, .mv (.t 61)⟩]) .ret))))
def rs71 : List (Nat × Option Nat × Mode) := [(4, none, .plain)]
theorem chk71 : chkC Try.prog Try.f71.ntmps b71 (Try.f71.body.getD .skip) = true := by decide +kernel
theorem top71 {args : List Arg} {out : Out} (ha : args.length.ble Try.f71.ntmps = true) (h8 : args.length.ble 8 = true) (mss : List (List (Option Nat))) (hb : backOK args out.back)
    (hw : rnC Try.prog b71 (topQ rs71 args mss out) (slotsOf (argsAV argBase args 0) 0) (argsOb argBase args 0)) : CW Try.prog 71 args out :=
  CW.of Try.func71 rs71 mss (by decide +kernel) (by decide +kernel) (by decide +kernel) ha h8 chk71 hb hw

/-- The records, one behind the other: the first with which something is wrong. -/
def recordsF (l : List Rec) : List Rec → List Rec → Int → Option (Int × Int)
  | _, [], _ => none
  | p, r :: s, i => if recordF l p r ≠ 0 then some (i, recordF l p r) else recordsF l (p ++ [r]) s (i + 1)
def asked (c : Int) : Bool := decide (c = 45) || decide (c = 46) || (decide (48 ≤ c) && decide (c ≤ 57)) || decide (97 ≤ c)
def basesF (l : List Rec) : Bool := (List.range' 45 78).all fun c => !asked c || plainL l c
def canonF (l : List Rec) : Int × Int :=
  if (checkF l).2 ≠ 0 then checkF l else
  match recordsF l [] l 0 with
  | some x => x
  | none => if basesF l = true then (0, 0) else (l.length, 70)
theorem rightF_to {r : Rec} (h : rightF r = 0) (h7 : r.kind = 7) : r.to.length = 2 := by
  unfold rightF at h
  rw [h7] at h
  simp [famK] at h
  unfold okF at h
  simp [h7, listR] at h
  omega
theorem rightF_ne {r : Rec} : rightF r = 0 ∨ rightF r = 60 ∨ rightF r = 61 := by
  unfold rightF
  (repeat' split) <;> simp
theorem rightsF_ne : ∀ (l : List Rec) (i : Int) (x : Int × Int), rightsF l i = some x → x.2 ≠ 0
  | [], _, _, h => by cases h
  | r :: l, i, x, h => by
    unfold rightsF at h
    split at h
    · rename_i hr; cases h; exact hr
    · exact rightsF_ne l _ x h
theorem checkF_zero {l : List Rec} (h : (checkF l).2 = 0) : (∀ r ∈ l, rightF r = 0) ∧ l.length ≤ 4096 := by
  unfold checkF at h
  split at h
  · cases h
  · split at h
    · rename_i x hx; exact absurd h (rightsF_ne _ _ _ hx)
    · rename_i hx; exact ⟨rightsF_none l 0 hx, by omega⟩
theorem w27 (l : List Rec) (hl : ∀ r ∈ l, r.ok) (hn : l.length < 9223372036854775808) (hto : ∀ r ∈ l, r.to.length ≤ 35184372088832) (Q : Ex → Slots → LH → Prop) (hQ : ∀ σ H, Slots.get σ 2 = .c (.int .i64 ((canonF l).1)) → Slots.get σ 3 = .c (.int .i64 ((canonF l).2)) → Q .ret σ H) : rnC Try.prog b27 Q [(0, .c (.sl 8 (recs l)))] [] := by
  unfold b27
  simp only [go_sem, ↓reduceIte, Nat.reduceEqDiff, Nat.reduceMul, Nat.reduceAdd, Nat.reduceDiv, Nat.reduceSub, Nat.reduceLT, Nat.reduceLeDiff, Int.reduceLE, Int.reduceLT, Int.reduceToNat, Int.reduceEq]
  refine callK_2 _ _ (fun _ => cw51 l hl hto) (by simp only [go_sem, ↓reduceIte, Nat.reduceEqDiff, Nat.reduceMul, Nat.reduceAdd, Nat.reduceDiv, Nat.reduceSub, Nat.reduceLT, Nat.reduceLeDiff, Int.reduceLE, Int.reduceLT, Int.reduceToNat, Int.reduceEq]) rfl rfl ?_
  simp only [go_sem, ↓reduceIte, Nat.reduceEqDiff, Nat.reduceMul, Nat.reduceAdd, Nat.reduceDiv, Nat.reduceSub, Nat.reduceLT, Nat.reduceLeDiff, Int.reduceLE, Int.reduceLT, Int.reduceToNat, Int.reduceEq]
  refine ⟨fun h => ?_, fun h => ?_⟩
  · have e : canonF l = checkF l := if_pos h
    rw [e] at hQ
    exact hQ _ _ rfl rfl
  have e : canonF l = match recordsF l [] l 0 with
    | some x => x
    | none => if basesF l = true then (0, 0) else (l.length, 70) := if_neg (by simpa using h)
  rw [e] at hQ
  obtain ⟨hright, hlen⟩ := checkF_zero h
  have h7 : ∀ r ∈ l, r.kind = 7 → r.to.length = 2 := fun r hr h7 => rightF_to (hright r hr) h7
  refine loopR.by (α := Nat) (fun i => [(0, .c (.sl 8 (recs l))), (6, .c (.int .i64 i))]) (fun i => []) (fun i => l.length - i) (fun i => i ≤ l.length ∧ (recordsF l (l.take i) (l.drop i) i = recordsF l [] l 0)) 0 ⟨Nat.zero_le _, rfl⟩ ?_ ?_
  · intro Y hY
    simp only [go_sem, ↓reduceIte, Nat.reduceEqDiff, Nat.reduceMul, Nat.reduceAdd, Nat.reduceDiv, Nat.reduceSub, Nat.reduceLT, Nat.reduceLeDiff, Int.reduceLE, Int.reduceLT, Int.reduceToNat, Int.reduceEq, n27_0]
    exact hY
  intro i hk Y hY
  unfold l27_0
  rcases Nat.lt_or_ge i (l.length) with hlt | hge
  · obtain ⟨r, e, hm, hd⟩ := recs_at hlt
    have hf' := hk.2
    rw [hd, recordsF] at hf'
    simp only [go_sem, ↓reduceIte, Nat.reduceEqDiff, Nat.reduceMul, Nat.reduceAdd, Nat.reduceDiv, Nat.reduceSub, Nat.reduceLT, Nat.reduceLeDiff, Int.reduceLE, Int.reduceLT, Int.reduceToNat, Int.reduceEq, n27_0]
    refine ⟨fun _ => ?_, fun h => by omega⟩
    refine callK_1 _ (fun _ => cw52 l i r hlt e hm h7 hl hn hto) (by simp only [go_sem, ↓reduceIte, Nat.reduceEqDiff, Nat.reduceMul, Nat.reduceAdd, Nat.reduceDiv, Nat.reduceSub, Nat.reduceLT, Nat.reduceLeDiff, Int.reduceLE, Int.reduceLT, Int.reduceToNat, Int.reduceEq]) rfl rfl ?_
    simp only [go_sem, ↓reduceIte, Nat.reduceEqDiff, Nat.reduceMul, Nat.reduceAdd, Nat.reduceDiv, Nat.reduceSub, Nat.reduceLT, Nat.reduceLeDiff, Int.reduceLE, Int.reduceLT, Int.reduceToNat, Int.reduceEq]
    repeat (refine ⟨by (first | omega | (intro h1 h2; exact ⟨h1, h2⟩) | (intro h1; omega) | (intro h1; exact h1) | trivial), ?_⟩)
    rw [succ64 hlt (by omega)]
    refine ⟨fun h1 => ?_, fun h1 => hY (i + 1) ⟨hlt, ?_⟩ (by omega)⟩
    · rw [if_pos h1] at hf'
      rw [← hf'] at hQ
      exact hQ _ _ rfl rfl
    · rw [if_neg (by simpa using h1)] at hf'
      rw [← hf']
      congr 1
      rw [List.take_add_one, List.getElem?_eq_getElem hlt]
      have h2 : l.drop i = l[i] :: l.drop (i + 1) := List.drop_eq_getElem_cons hlt
      rw [h2] at hd
      injection hd with hd1 hd2
      rw [hd1]; rfl
  have hlen : i = l.length := by omega
  have hr := hk.2
  rw [hlen, List.drop_length, recordsF] at hr
  rw [← hr] at hQ
  simp only [go_sem, ↓reduceIte, Nat.reduceEqDiff, Nat.reduceMul, Nat.reduceAdd, Nat.reduceDiv, Nat.reduceSub, Nat.reduceLT, Nat.reduceLeDiff, Int.reduceLE, Int.reduceLT, Int.reduceToNat, Int.reduceEq, n27_0]
  refine ⟨fun h => by omega, fun _ => ?_⟩
  clear hk hY hge hr
  refine loopR.by (α := Nat) (fun k => [(0, .c (.sl 8 (recs l))), (8, .c (.int .i32 (45 + k : Nat)))]) (fun _ => []) (fun k => 78 - k)
    (fun k => k ≤ 78 ∧ ((List.range' (45 + k) (78 - k)).all fun c => !asked c || plainL l c) = basesF l) 0 ⟨Nat.zero_le _, rfl⟩ ?_ ?_
  · intro Z hZ
    simp only [go_sem, ↓reduceIte, Nat.reduceEqDiff, Nat.reduceMul, Nat.reduceAdd, Nat.reduceDiv, Nat.reduceSub, Nat.reduceLT, Nat.reduceLeDiff, Int.reduceLE, Int.reduceLT, Int.reduceToNat, Int.reduceEq, n27_1]
    exact hZ
  intro k hk Z hZ
  unfold l27_1
  rcases Nat.lt_or_ge k 78 with hlt | hge
  · have hf := hk.2
    rw [show 78 - k = (78 - (k + 1)) + 1 by omega, List.range'_succ, List.all_cons] at hf
    simp only [go_sem, ↓reduceIte, Nat.reduceEqDiff, Nat.reduceMul, Nat.reduceAdd, Nat.reduceDiv, Nat.reduceSub, Nat.reduceLT, Nat.reduceLeDiff, Int.reduceLE, Int.reduceLT, Int.reduceToNat, Int.reduceEq, n27_1]
    refine ⟨fun _ => ?_, fun h => by omega⟩
    repeat (refine ⟨by (first | omega | (intro h1 h2; exact ⟨h1, h2⟩) | (intro h1; omega) | (intro h1; exact h1) | trivial), ?_⟩)
    refine callK_1 _ (fun _ => cw53 l _ hl hn (by unfold i32ok; omega)) (by simp only [go_sem, ↓reduceIte, Nat.reduceEqDiff, Nat.reduceMul, Nat.reduceAdd, Nat.reduceDiv, Nat.reduceSub, Nat.reduceLT, Nat.reduceLeDiff, Int.reduceLE, Int.reduceLT, Int.reduceToNat, Int.reduceEq]) rfl rfl ?_
    simp only [go_sem, ↓reduceIte, Nat.reduceEqDiff, Nat.reduceMul, Nat.reduceAdd, Nat.reduceDiv, Nat.reduceSub, Nat.reduceLT, Nat.reduceLeDiff, Int.reduceLE, Int.reduceLT, Int.reduceToNat, Int.reduceEq]
    repeat (refine ⟨by (first | omega | (intro h1 h2; exact ⟨h1, h2⟩) | (intro h1; omega) | (intro h1; exact h1) | trivial), ?_⟩)
    have hw : IntKind.i32.wrap (((45 + k : Nat) : Int) + 1) = ((45 + (k + 1) : Nat) : Int) := by rw [wrap_i32]; omega
    rw [hw]
    refine ⟨fun h1 => ?_, fun h1 => ?_⟩
    · have e1 : (!asked ((45 + k : Nat) : Int) || plainL l ((45 + k : Nat) : Int)) = false := by unfold asked; grind
      rw [e1, Bool.false_and] at hf
      rw [if_neg (by rw [← hf]; simp)] at hQ
      exact hQ _ _ rfl rfl
    · have e1 : (!asked ((45 + k : Nat) : Int) || plainL l ((45 + k : Nat) : Int)) = true := by unfold asked; grind
      rw [e1, Bool.true_and] at hf
      exact hZ (k + 1) ⟨hlt, hf⟩ (by omega)
  · simp only [go_sem, ↓reduceIte, Nat.reduceEqDiff, Nat.reduceMul, Nat.reduceAdd, Nat.reduceDiv, Nat.reduceSub, Nat.reduceLT, Nat.reduceLeDiff, Int.reduceLE, Int.reduceLT, Int.reduceToNat, Int.reduceEq, n27_1]
    refine ⟨fun h => by omega, fun _ => ?_⟩
    have hf := hk.2
    rw [show 78 - k = 0 by omega] at hf
    rw [if_pos (show basesF l = true from hf.symm)] at hQ
    exact hQ _ _ rfl rfl
theorem cw27 (l : List Rec) (hl : ∀ r ∈ l, r.ok) (hn : l.length < 9223372036854775808) (hto : ∀ r ∈ l, r.to.length ≤ 35184372088832) : CW Try.prog 27 [.cv (.sl 8 (recs l))] ⟨[.cv (.int .i64 ((canonF l).1)), .cv (.int .i64 ((canonF l).2))], []⟩ :=
  top27 rfl rfl [] trivial (w27 l hl hn hto _ fun σ H h h' => ret2 rfl h h')
def jamos : List (Int × Int) := [(4352, 4370), (4449, 4469), (4520, 4546), (44032, 55203)]
def spansCV (l : List (Int × Int)) : List CV := l.map fun p => .agg [.int .i64 p.1, .int .i64 p.2]
theorem jl_eq (c : Int) : isJL c = refL c := by unfold isJL refL; rw [Bool.eq_iff_iff]; simp; omega
theorem jv_eq (c : Int) : isJV c = refV c := by unfold isJV refV; rw [Bool.eq_iff_iff]; simp; omega
theorem jt_eq (c : Int) : isJT c = refT c := by unfold isJT refT; rw [Bool.eq_iff_iff]; simp; omega
theorem hangulF_eq (r : Rec) : hangulF r = ((jamos.any fun p => coversR r p.1 p.2) || (decide (r.kind = 7) && match r.to with
    | [a, b] => refL a && refV b || syl a && decide ((IntKind.i32.wrap (a - 44032)).tmod 28 = 0) && refT b
    | _ => false)) := by
  unfold hangulF jamos
  simp only [List.any_cons, List.any_nil, Bool.or_false, Bool.or_assoc]
  rfl
theorem w70 (r : Rec) (h7 : r.kind = 7 → r.to.length = 2) (Q : Ex → Slots → LH → Prop) (hQ : ∀ σ H, Slots.get σ 2 = .c (.bool (hangulF r)) → Q .ret σ H) : rnC Try.prog b70 Q [(0, .c (Rec.cv r))] [] := by
  unfold b70
  rw [hangulF_eq] at hQ
  simp only [go_sem, ↓reduceIte, Nat.reduceEqDiff, Nat.reduceMul, Nat.reduceAdd, Nat.reduceDiv, Nat.reduceSub, Nat.reduceLT, Nat.reduceLeDiff, Int.reduceLE, Int.reduceLT, Int.reduceToNat, Int.reduceEq]
  refine loopR.by (α := Nat) (fun k => [(1, .ref 64 0), (11, .osl 1000011 0 4), (12, .c (.int .i64 4)), (13, .c (.int .i64 k))]) (fun _ => [(1000011, .row 2 (spansCV jamos)), (64, .obj [.c (.int .i64 r.kind), .c (.int .i64 r.lo), .c (.int .i64 r.hi), .c (.int .i64 r.n), .c (.sl 1 (runes r.to)), .c (.str r.name), .c (.str r.other), .c (.flt r.weight)])]) (fun k => 4 - k)
    (fun k => k ≤ 4 ∧ ((jamos.drop k).any fun p => coversR r p.1 p.2) = jamos.any fun p => coversR r p.1 p.2) 0 ⟨Nat.zero_le _, rfl⟩ ?_ ?_
  · intro Z hZ
    simp only [go_sem, ↓reduceIte, Nat.reduceEqDiff, Nat.reduceMul, Nat.reduceAdd, Nat.reduceDiv, Nat.reduceSub, Nat.reduceLT, Nat.reduceLeDiff, Int.reduceLE, Int.reduceLT, Int.reduceToNat, Int.reduceEq, n70_0]
    exact ⟨by simp, hZ⟩
  intro k hk Z hZ
  unfold l70_0
  rcases Nat.lt_or_ge k 4 with hlt | hge
  · obtain ⟨p, e, hd⟩ : ∃ p : Int × Int, (spansCV jamos).getD k .undef = .agg [.int .i64 p.1, .int .i64 p.2] ∧ jamos.drop k = p :: jamos.drop (k + 1) := by
      have : k = 0 ∨ k = 1 ∨ k = 2 ∨ k = 3 := by omega
      rcases this with rfl | rfl | rfl | rfl <;> exact ⟨_, rfl, rfl⟩
    have hf := hk.2
    rw [hd, List.any_cons] at hf
    simp only [go_sem, ↓reduceIte, Nat.reduceEqDiff, Nat.reduceMul, Nat.reduceAdd, Nat.reduceDiv, Nat.reduceSub, Nat.reduceLT, Nat.reduceLeDiff, Int.reduceLE, Int.reduceLT, Int.reduceToNat, Int.reduceEq, n70_0, e]
    refine ⟨fun _ => ⟨by omega, fun h1 => hQ _ _ ?_, fun h1 => ?_⟩, fun h => by omega⟩
    · simp only [go_sem, ↓reduceIte, Nat.reduceEqDiff, Nat.reduceMul, Nat.reduceAdd, Nat.reduceDiv, Nat.reduceSub, Nat.reduceLT, Nat.reduceLeDiff, Int.reduceLE, Int.reduceLT, Int.reduceToNat, Int.reduceEq]
      rw [← hf]
      have : coversR r p.1 p.2 = true := by unfold coversR; simp; omega
      rw [this]; simp
    · refine ⟨⟨rfl, by simp⟩, ?_⟩
      rw [succ64 hlt (by omega)]
      refine hZ (k + 1) ⟨hlt, ?_⟩ (by omega)
      rw [← hf]
      have : coversR r p.1 p.2 = false := by unfold coversR; simp; omega
      rw [this]; simp
  · have hf := hk.2
    rw [List.drop_eq_nil_of_le (show jamos.length ≤ k from hge), List.any_nil] at hf
    rw [← hf, Bool.false_or] at hQ
    by_cases h : r.kind = 7
    · obtain ⟨a, b, hab⟩ : ∃ a b, r.to = [a, b] := by
        match ho : r.to, h7 h with
        | [a, b], _ => exact ⟨a, b, rfl⟩
      have e0 : (runes r.to).getD 0 .undef = .int .i32 a := by simp [hab, runes]
      have e1 : (runes r.to).getD 1 .undef = .int .i32 b := by simp [hab, runes]
      have el : r.to.length = 2 := by simp [hab]
      rw [hab] at hQ
      simp only [go_sem, ↓reduceIte, Nat.reduceEqDiff, Nat.reduceMul, Nat.reduceAdd, Nat.reduceDiv, Nat.reduceSub, Nat.reduceLT, Nat.reduceLeDiff, Int.reduceLE, Int.reduceLT, Int.reduceToNat, Int.reduceEq, n70_0, e0, e1, el]
      refine ⟨fun h => by omega, fun _ => ⟨fun h8 => absurd h h8, fun _ => ?_⟩⟩
      repeat (refine ⟨by (first | omega | (intro h1 h2; exact ⟨h1, h2⟩) | (intro h1; omega) | (intro h1; exact h1) | trivial), ?_⟩)
      refine callK_1 _ (fun _ => cw109 a) (by simp only [go_sem, ↓reduceIte, Nat.reduceEqDiff, Nat.reduceMul, Nat.reduceAdd, Nat.reduceDiv, Nat.reduceSub, Nat.reduceLT, Nat.reduceLeDiff, Int.reduceLE, Int.reduceLT, Int.reduceToNat, Int.reduceEq]) rfl rfl ?_
      simp only [go_sem, ↓reduceIte, Nat.reduceEqDiff, Nat.reduceMul, Nat.reduceAdd, Nat.reduceDiv, Nat.reduceSub, Nat.reduceLT, Nat.reduceLeDiff, Int.reduceLE, Int.reduceLT, Int.reduceToNat, Int.reduceEq]
      repeat (refine ⟨by (first | omega | (intro h1 h2; exact ⟨h1, h2⟩) | (intro h1; omega) | (intro h1; exact h1) | trivial), ?_⟩)
      refine callK_1 _ (fun _ => cw110 b) (by simp only [go_sem, ↓reduceIte, Nat.reduceEqDiff, Nat.reduceMul, Nat.reduceAdd, Nat.reduceDiv, Nat.reduceSub, Nat.reduceLT, Nat.reduceLeDiff, Int.reduceLE, Int.reduceLT, Int.reduceToNat, Int.reduceEq]) rfl rfl ?_
      simp only [go_sem, ↓reduceIte, Nat.reduceEqDiff, Nat.reduceMul, Nat.reduceAdd, Nat.reduceDiv, Nat.reduceSub, Nat.reduceLT, Nat.reduceLeDiff, Int.reduceLE, Int.reduceLT, Int.reduceToNat, Int.reduceEq]
      repeat (refine ⟨by (first | omega | (intro h1 h2; exact ⟨h1, h2⟩) | (intro h1; omega) | (intro h1; exact h1) | trivial), ?_⟩)
      refine callK_1 _ (fun _ => cw40 a) (by simp only [go_sem, ↓reduceIte, Nat.reduceEqDiff, Nat.reduceMul, Nat.reduceAdd, Nat.reduceDiv, Nat.reduceSub, Nat.reduceLT, Nat.reduceLeDiff, Int.reduceLE, Int.reduceLT, Int.reduceToNat, Int.reduceEq]) rfl rfl ?_
      simp only [go_sem, ↓reduceIte, Nat.reduceEqDiff, Nat.reduceMul, Nat.reduceAdd, Nat.reduceDiv, Nat.reduceSub, Nat.reduceLT, Nat.reduceLeDiff, Int.reduceLE, Int.reduceLT, Int.reduceToNat, Int.reduceEq]
      repeat (refine ⟨by (first | omega | (intro h1 h2; exact ⟨h1, h2⟩) | (intro h1; omega) | (intro h1; exact h1) | trivial), ?_⟩)
      refine callK_1 _ (fun _ => cw111 b) (by simp only [go_sem, ↓reduceIte, Nat.reduceEqDiff, Nat.reduceMul, Nat.reduceAdd, Nat.reduceDiv, Nat.reduceSub, Nat.reduceLT, Nat.reduceLeDiff, Int.reduceLE, Int.reduceLT, Int.reduceToNat, Int.reduceEq]) rfl rfl ?_
      simp only [go_sem, ↓reduceIte, Nat.reduceEqDiff, Nat.reduceMul, Nat.reduceAdd, Nat.reduceDiv, Nat.reduceSub, Nat.reduceLT, Nat.reduceLeDiff, Int.reduceLE, Int.reduceLT, Int.reduceToNat, Int.reduceEq]
      repeat (refine ⟨by (first | omega | (intro h1 h2; exact ⟨h1, h2⟩) | (intro h1; omega) | (intro h1; exact h1) | trivial), ?_⟩)
      refine hQ _ _ ?_
      simp only [go_sem, ↓reduceIte, Nat.reduceEqDiff, Nat.reduceMul, Nat.reduceAdd, Nat.reduceDiv, Nat.reduceSub, Nat.reduceLT, Nat.reduceLeDiff, Int.reduceLE, Int.reduceLT, Int.reduceToNat, Int.reduceEq, h, decide_true, Bool.true_and, jl_eq, jv_eq, jt_eq]
    · simp only [go_sem, ↓reduceIte, Nat.reduceEqDiff, Nat.reduceMul, Nat.reduceAdd, Nat.reduceDiv, Nat.reduceSub, Nat.reduceLT, Nat.reduceLeDiff, Int.reduceLE, Int.reduceLT, Int.reduceToNat, Int.reduceEq, n70_0]
      refine ⟨fun h => by omega, fun _ => ⟨fun _ => hQ _ _ ?_, fun h8 => absurd h8 h⟩⟩
      simp only [go_sem, ↓reduceIte, Nat.reduceEqDiff, Nat.reduceMul, Nat.reduceAdd, Nat.reduceDiv, Nat.reduceSub, Nat.reduceLT, Nat.reduceLeDiff, Int.reduceLE, Int.reduceLT, Int.reduceToNat, Int.reduceEq, h, decide_false, Bool.false_and]
theorem cw70 (r : Rec) (h7 : r.kind = 7 → r.to.length = 2) : CW Try.prog 70 [.cv (Rec.cv r)] ⟨[.cv (.bool (hangulF r))], []⟩ :=
  top70 rfl rfl [] trivial (w70 r h7 _ fun σ H h => ret1 rfl h)
theorem w71 (l : List Rec) (r : Rec) (a b : Int) (hto2 : r.to = [a, b]) (hm : r ∈ l) (hl : ∀ r ∈ l, r.ok) (hn : l.length < 9223372036854775808) (hto : ∀ r ∈ l, r.to.length ≤ 35184372088832) (Q : Ex → Slots → LH → Prop) (hQ : ∀ σ H, Slots.get σ 4 = .c (.bool (pairsL l r)) → Q .ret σ H) : rnC Try.prog b71 Q [(0, .c (.sl 8 (recs l))), (1, .c (Rec.cv r))] [] := by
  unfold b71
  have e0 : (runes r.to).getD 0 .undef = .int .i32 a := by simp [hto2, runes]
  have e1 : (runes r.to).getD 1 .undef = .int .i32 b := by simp [hto2, runes]
  have el : r.to.length = 2 := by simp [hto2]
  have ha : i32ok a := (hl r hm).2.2.2.2 a (by simp [hto2])
  have hb : i32ok b := (hl r hm).2.2.2.2 b (by simp [hto2])
  simp only [go_sem, ↓reduceIte, Nat.reduceEqDiff, Nat.reduceMul, Nat.reduceAdd, Nat.reduceDiv, Nat.reduceSub, Nat.reduceLT, Nat.reduceLeDiff, Int.reduceLE, Int.reduceLT, Int.reduceToNat, Int.reduceEq, e0, e1, el]
  repeat (refine ⟨by (first | omega | (intro h1 h2; exact ⟨h1, h2⟩) | (intro h1; omega) | (intro h1; exact h1) | trivial), ?_⟩)
  refine callK_3 _ _ _ (fun _ => cw16 l a hl hn ha) (by simp only [go_sem, ↓reduceIte, Nat.reduceEqDiff, Nat.reduceMul, Nat.reduceAdd, Nat.reduceDiv, Nat.reduceSub, Nat.reduceLT, Nat.reduceLeDiff, Int.reduceLE, Int.reduceLT, Int.reduceToNat, Int.reduceEq]) rfl rfl ?_
  simp only [go_sem, ↓reduceIte, Nat.reduceEqDiff, Nat.reduceMul, Nat.reduceAdd, Nat.reduceDiv, Nat.reduceSub, Nat.reduceLT, Nat.reduceLeDiff, Int.reduceLE, Int.reduceLT, Int.reduceToNat, Int.reduceEq]
  repeat (refine ⟨by (first | omega | (intro h1 h2; exact ⟨h1, h2⟩) | (intro h1; omega) | (intro h1; exact h1) | trivial), ?_⟩)
  refine callK_1 _ (fun _ => cw18 l _ hl hn (i32wrap_ok _)) (by simp only [go_sem, ↓reduceIte, Nat.reduceEqDiff, Nat.reduceMul, Nat.reduceAdd, Nat.reduceDiv, Nat.reduceSub, Nat.reduceLT, Nat.reduceLeDiff, Int.reduceLE, Int.reduceLT, Int.reduceToNat, Int.reduceEq]) rfl rfl ?_
  simp only [go_sem, ↓reduceIte, Nat.reduceEqDiff, Nat.reduceMul, Nat.reduceAdd, Nat.reduceDiv, Nat.reduceSub, Nat.reduceLT, Nat.reduceLeDiff, Int.reduceLE, Int.reduceLT, Int.reduceToNat, Int.reduceEq]
  repeat (refine ⟨by (first | omega | (intro h1 h2; exact ⟨h1, h2⟩) | (intro h1; omega) | (intro h1; exact h1) | trivial), ?_⟩)
  refine callK_1 _ (fun _ => cw18 l a hl hn ha) (by simp only [go_sem, ↓reduceIte, Nat.reduceEqDiff, Nat.reduceMul, Nat.reduceAdd, Nat.reduceDiv, Nat.reduceSub, Nat.reduceLT, Nat.reduceLeDiff, Int.reduceLE, Int.reduceLT, Int.reduceToNat, Int.reduceEq]) rfl rfl ?_
  simp only [go_sem, ↓reduceIte, Nat.reduceEqDiff, Nat.reduceMul, Nat.reduceAdd, Nat.reduceDiv, Nat.reduceSub, Nat.reduceLT, Nat.reduceLeDiff, Int.reduceLE, Int.reduceLT, Int.reduceToNat, Int.reduceEq]
  repeat (refine ⟨by (first | omega | (intro h1 h2; exact ⟨h1, h2⟩) | (intro h1; omega) | (intro h1; exact h1) | trivial), ?_⟩)
  refine callK_1 _ (fun _ => CW.pubRes rfl (cw15 l b hl hn hto hb)) (by simp only [go_sem, ↓reduceIte, Nat.reduceEqDiff, Nat.reduceMul, Nat.reduceAdd, Nat.reduceDiv, Nat.reduceSub, Nat.reduceLT, Nat.reduceLeDiff, Int.reduceLE, Int.reduceLT, Int.reduceToNat, Int.reduceEq]) rfl rfl ?_
  simp only [go_sem, ↓reduceIte, Nat.reduceEqDiff, Nat.reduceMul, Nat.reduceAdd, Nat.reduceDiv, Nat.reduceSub, Nat.reduceLT, Nat.reduceLeDiff, Int.reduceLE, Int.reduceLT, Int.reduceToNat, Int.reduceEq, len_pos]
  repeat (refine ⟨by (first | omega | (intro h1 h2; exact ⟨h1, h2⟩) | (intro h1; omega) | (intro h1; exact h1) | trivial), ?_⟩)
  refine callK_1 _ (fun _ => CW.pubRes rfl (cw15 l a hl hn hto ha)) (by simp only [go_sem, ↓reduceIte, Nat.reduceEqDiff, Nat.reduceMul, Nat.reduceAdd, Nat.reduceDiv, Nat.reduceSub, Nat.reduceLT, Nat.reduceLeDiff, Int.reduceLE, Int.reduceLT, Int.reduceToNat, Int.reduceEq]) rfl rfl ?_
  simp only [go_sem, ↓reduceIte, Nat.reduceEqDiff, Nat.reduceMul, Nat.reduceAdd, Nat.reduceDiv, Nat.reduceSub, Nat.reduceLT, Nat.reduceLeDiff, Int.reduceLE, Int.reduceLT, Int.reduceToNat, Int.reduceEq, len_pos]
  repeat (refine ⟨by (first | omega | (intro h1 h2; exact ⟨h1, h2⟩) | (intro h1; omega) | (intro h1; exact h1) | trivial), ?_⟩)
  have hp : pairsL l r = (decide (classL l (IntKind.i32.wrap r.lo) = 0) && decide (classL l a = 0) && decide (openL l b = []) && (decide (openL l a = []) || (primL l a).2.2) && decide (128 ≤ b) && !decide (a = 46)) := by
    unfold pairsL; rw [hto2]
  refine hQ _ _ ?_
  simp only [go_sem, ↓reduceIte, Nat.reduceEqDiff, Nat.reduceMul, Nat.reduceAdd, Nat.reduceDiv, Nat.reduceSub, Nat.reduceLT, Nat.reduceLeDiff, Int.reduceLE, Int.reduceLT, Int.reduceToNat, Int.reduceEq]
  rw [hp, bne, Bool.beq_eq_decide_eq]
theorem cw71 (l : List Rec) (r : Rec) (a b : Int) (hto2 : r.to = [a, b]) (hm : r ∈ l) (hl : ∀ r ∈ l, r.ok) (hn : l.length < 9223372036854775808) (hto : ∀ r ∈ l, r.to.length ≤ 35184372088832) : CW Try.prog 71 [.cv (.sl 8 (recs l)), .cv (Rec.cv r)] ⟨[.cv (.bool (pairsL l r))], []⟩ :=
  top71 rfl rfl [] trivial (w71 l r a b hto2 hm hl hn hto _ fun σ H h => ret1 rfl h)
end Go.Proofs.Ytcpdnpaedkcebaa.V
