/- Contracts: the reference's full decompositions and canon.Check. -/
import Derived.Test.YtcpdnpaedkcebaaXd
import Derived.Test.YtcpdnpaedkcebaaVx
namespace Go.Proofs.Ytcpdnpaedkcebaa.V
open Go Go.RowKit
set_option linter.unusedVariables false
set_option linter.unusedSimpArgs false
set_option maxRecDepth 100000
/- endonym/endonymref7.falls -/
def l78_0 : IC := (.seq (.seq (.reg [⟨(some 7), 0, none, .mv (.t 5)⟩,
  ⟨(some 8), 0, none, .mv (.t 1)⟩,
  ⟨(some 9), 0, none, .len false (.t 8)⟩,
  ⟨(some 10), 0, none, .bin .lss (.t 7) (.t 9)⟩]) (.cond (.t 10) .skip (.exit 0))) (.seq (.block 1 (.seq (.reg [⟨(some 13), 0, none, .mv (.t 0)⟩,
  ⟨(some 14), 0, none, .mv (.t 1)⟩,
  ⟨(some 15), 0, none, .mv (.t 5)⟩,
  ⟨(some 16), 0, none, .ia (.t 14) (.t 15) 1⟩,
  ⟨(some 17), 0, none, .ld (.t 16) none⟩,
  ⟨(some 18), 1, none, .call (.c (.fn 19)) [((.t 13), .view 8), ((.t 17), .plain)]⟩,
  ⟨(some 6), 0, none, .mv (.t 18)⟩]) (.seq (.reg [⟨(some 19), 0, none, .mv (.t 6)⟩,
  ⟨(some 20), 0, none, .bin .neq (.t 19) (.c (.int .i64 0))⟩,
  ⟨(some 21), 0, none, .mv (.t 20)⟩,
  ⟨(some 22), 0, (some (21, true)), .mv (.t 0)⟩,
  ⟨(some 23), 0, (some (21, true)), .mv (.t 1)⟩,
  ⟨(some 24), 0, (some (21, true)), .mv (.t 5)⟩,
  ⟨(some 25), 0, (some (21, true)), .bin .sub (.t 24) (.c (.int .i64 1))⟩,
  ⟨(some 26), 0, (some (21, true)), .ia (.t 23) (.t 25) 1⟩,
  ⟨(some 27), 0, (some (21, true)), .ld (.t 26) none⟩,
  ⟨(some 28), 11, (some (21, true)), .call (.c (.fn 19)) [((.t 22), .view 8), ((.t 27), .plain)]⟩,
  ⟨(some 29), 0, (some (21, true)), .mv (.t 6)⟩,
  ⟨(some 30), 0, (some (21, true)), .bin .gtr (.t 28) (.t 29)⟩,
  ⟨(some 31), 0, none, .pick (.t 21) (.t 30) (.c (.bool false))⟩]) (.cond (.t 31) (.seq (.reg [⟨(some 4), 0, none, .mv (.c (.bool true))⟩]) .ret) .skip)))) (.reg [⟨(some 11), 0, none, .mv (.t 5)⟩,
  ⟨(some 12), 0, none, .bin .add (.t 11) (.c (.int .i64 1))⟩,
  ⟨(some 5), 0, none, .mv (.t 12)⟩])))
def n78_0 : Norm := ⟨[(0, .plain), (1, .plain), (5, .plain)], []⟩
def b78 : IC := (.seq (.reg [⟨(some 4), 0, none, .mv (.c (.bool false))⟩]) (.seq (.seq (.reg [⟨(some 5), 0, none, .mv (.c (.int .i64 1))⟩]) (.block 0 (.loop n78_0 l78_0))) (.seq (.reg [⟨(some 4), 0, none, .mv (.c (.bool false))⟩]) .ret)))
def rs78 : List (Nat × Option Nat × Mode) := [(4, none, .plain)]
theorem chk78 : chkC Try.prog Try.f78.ntmps b78 (Try.f78.body.getD .skip) = true := by decide +kernel
theorem top78 {args : List Arg} {out : Out} (ha : args.length.ble Try.f78.ntmps = true) (h8 : args.length.ble 8 = true) (mss : List (List (Option Nat))) (hb : backOK args out.back)
    (hw : rnC Try.prog b78 (topQ rs78 args mss out) (slotsOf (argsAV argBase args 0) 0) (argsOb argBase args 0)) : CW Try.prog 78 args out :=
  CW.of Try.func78 rs78 mss (by decide +kernel) (by decide +kernel) (by decide +kernel) ha h8 chk78 hb hw
/- endonym/endonymref7.plain -/
def b53 : IC := (.seq (.reg [⟨(some 4), 0, none, .mv (.c (.bool false))⟩]) (.seq (.reg [⟨(some 6), 0, none, .mv (.t 0)⟩,
  ⟨(some 7), 0, none, .mv (.t 1)⟩,
  ⟨(some 8), 1, none, .call (.c (.fn 44)) [((.t 6), .view 8), ((.c (.int .i64 1)), .plain), ((.t 7), .plain)]⟩,
  ⟨(some 5), 0, none, .mv (.t 8)⟩]) (.seq (.reg [⟨(some 9), 0, none, .mv (.t 5)⟩,
  ⟨(some 10), 0, none, .bin .geq (.t 9) (.c (.int .i64 0))⟩,
  ⟨(some 11), 0, none, .mv (.t 10)⟩,
  ⟨(some 12), 0, (some (11, true)), .mv (.t 0)⟩,
  ⟨(some 13), 0, (some (11, true)), .mv (.t 5)⟩,
  ⟨(some 14), 0, (some (11, true)), .ia (.t 12) (.t 13) 8⟩,
  ⟨(some 15), 0, (some (11, true)), .fa (.t 14) 0⟩,
  ⟨(some 16), 0, (some (11, true)), .ld (.t 15) none⟩,
  ⟨(some 17), 0, (some (11, true)), .bin .eql (.t 16) (.c (.int .i64 1))⟩,
  ⟨(some 18), 0, none, .pick (.t 11) (.t 17) (.c (.bool false))⟩,
  ⟨(some 4), 0, none, .mv (.t 18)⟩]) .ret)))
def rs53 : List (Nat × Option Nat × Mode) := [(4, none, .plain)]
theorem chk53 : chkC Try.prog Try.f53.ntmps b53 (Try.f53.body.getD .skip) = true := by decide +kernel
theorem top53 {args : List Arg} {out : Out} (ha : args.length.ble Try.f53.ntmps = true) (h8 : args.length.ble 8 = true) (mss : List (List (Option Nat))) (hb : backOK args out.back)
    (hw : rnC Try.prog b53 (topQ rs53 args mss out) (slotsOf (argsAV argBase args 0) 0) (argsOb argBase args 0)) : CW Try.prog 53 args out :=
  CW.of Try.func53 rs53 mss (by decide +kernel) (by decide +kernel) (by decide +kernel) ha h8 chk53 hb hw
/- endonym/endonymref7.pair -/
def l79_0 : IC := (.seq (.seq (.reg [⟨(some 75), 0, none, .mv (.t 11)⟩,
  ⟨(some 76), 0, none, .mv (.t 1)⟩,
  ⟨(some 77), 0, none, .bin .lss (.t 75) (.t 76)⟩]) (.cond (.t 77) .skip (.exit 0))) (.seq (.block 1 (.seq (.reg [⟨(some 80), 0, none, .mv (.t 0)⟩,
  ⟨(some 81), 0, none, .mv (.t 11)⟩,
  ⟨(some 82), 0, none, .ia (.t 80) (.t 81) 8⟩,
  ⟨(some 83), 0, none, .fa (.t 82) 0⟩,
  ⟨(some 84), 0, none, .ld (.t 83) none⟩,
  ⟨(some 85), 0, none, .bin .eql (.t 84) (.c (.int .i64 7))⟩,
  ⟨(some 86), 0, none, .mv (.t 85)⟩,
  ⟨(some 87), 0, (some (86, true)), .mv (.t 0)⟩,
  ⟨(some 88), 0, (some (86, true)), .mv (.t 11)⟩,
  ⟨(some 89), 0, (some (86, true)), .ia (.t 87) (.t 88) 8⟩,
  ⟨(some 90), 0, (some (86, true)), .fa (.t 89) 4⟩,
  ⟨(some 91), 0, (some (86, true)), .ld (.t 90) none⟩,
  ⟨(some 92), 0, (some (86, true)), .ia (.t 91) (.c (.int .i64 0)) 1⟩,
  ⟨(some 93), 0, (some (86, true)), .ld (.t 92) none⟩,
  ⟨(some 94), 0, (some (86, true)), .mv (.t 6)⟩,
  ⟨(some 95), 0, (some (86, true)), .bin .eql (.t 93) (.t 94)⟩,
  ⟨(some 96), 0, none, .pick (.t 86) (.t 95) (.c (.bool false))⟩,
  ⟨(some 97), 0, none, .mv (.t 96)⟩,
  ⟨(some 98), 0, (some (97, true)), .mv (.t 0)⟩,
  ⟨(some 99), 0, (some (97, true)), .mv (.t 11)⟩,
  ⟨(some 100), 0, (some (97, true)), .ia (.t 98) (.t 99) 8⟩,
  ⟨(some 101), 0, (some (97, true)), .fa (.t 100) 4⟩,
  ⟨(some 102), 0, (some (97, true)), .ld (.t 101) none⟩,
  ⟨(some 103), 0, (some (97, true)), .ia (.t 102) (.c (.int .i64 1)) 1⟩,
  ⟨(some 104), 0, (some (97, true)), .ld (.t 103) none⟩,
  ⟨(some 105), 0, (some (97, true)), .mv (.t 7)⟩,
  ⟨(some 106), 0, (some (97, true)), .bin .eql (.t 104) (.t 105)⟩,
  ⟨(some 107), 0, none, .pick (.t 97) (.t 106) (.c (.bool false))⟩]) (.cond (.t 107) (.seq (.reg [⟨(some 4), 0, none, .mv (.c (.bool false))⟩]) .ret) .skip))) (.reg [⟨(some 78), 0, none, .mv (.t 11)⟩,
  ⟨(some 79), 0, none, .bin .add (.t 78) (.c (.int .i64 1))⟩,
  ⟨(some 11), 0, none, .mv (.t 79)⟩])))
def n79_0 : Norm := ⟨[(0, .plain), (1, .plain), (6, .plain), (7, .plain), (11, .plain)], []⟩
def b79 : IC := (.seq (.reg [⟨(some 4), 0, none, .mv (.c (.bool false))⟩]) (.seq (.reg [⟨(some 12), 0, none, .mv (.t 0)⟩,
  ⟨(some 13), 0, none, .mv (.t 1)⟩,
  ⟨(some 14), 0, none, .ia (.t 12) (.t 13) 8⟩,
  ⟨(some 15), 0, none, .fa (.t 14) 1⟩,
  ⟨(some 16), 0, none, .ld (.t 15) none⟩,
  ⟨(some 17), 0, none, .conv .i32 (.t 16)⟩,
  ⟨(some 5), 0, none, .mv (.t 17)⟩]) (.seq (.draw (.take 0 ⟨(some 18), 0, none, .mv (.t 0)⟩ (.take 1 ⟨(some 19), 0, none, .mv (.t 1)⟩ (.take 2 ⟨(some 20), 0, none, .ia (.t 18) (.t 19) 8⟩ (.take 3 ⟨(some 21), 0, none, .fa (.t 20) 4⟩ (.take 4 ⟨(some 22), 0, none, .ld (.t 21) none⟩ (.take 5 ⟨(some 23), 0, none, .ia (.t 22) (.c (.int .i64 0)) 1⟩ (.take 6 ⟨(some 24), 0, none, .ld (.t 23) none⟩ (.take 7 ⟨(some 25), 0, none, .mv (.t 0)⟩ (.take 8 ⟨(some 26), 0, none, .mv (.t 1)⟩ (.take 9 ⟨(some 27), 0, none, .ia (.t 25) (.t 26) 8⟩ (.take 10 ⟨(some 28), 0, none, .fa (.t 27) 4⟩ (.take 11 ⟨(some 29), 0, none, .ld (.t 28) none⟩ (.take 12 ⟨(some 30), 0, none, .ia (.t 29) (.c (.int .i64 1)) 1⟩ (.take 13 ⟨(some 31), 0, none, .ld (.t 30) none⟩ (.take 14 ⟨(some 6), 0, none, .mv (.t 24)⟩ (.take 15 ⟨(some 7), 0, none, .mv (.t 31)⟩ .done))))))))))))))))) (.seq (.reg [⟨(some 33), 0, none, .mv (.t 0)⟩,
  ⟨(some 34), 0, none, .mv (.t 6)⟩,
  ⟨(some 35), 1, none, .call (.c (.fn 17)) [((.t 33), .view 8), ((.t 34), .plain)]⟩,
  ⟨(some 32), 0, none, .mv (.t 35)⟩,
  ⟨(some 36), 0, none, .ext (.t 32) 0⟩,
  ⟨(some 37), 0, none, .ext (.t 32) 1⟩,
  ⟨(some 38), 0, none, .ext (.t 32) 2⟩,
  ⟨(some 8), 0, none, .mv (.t 36)⟩,
  ⟨(some 9), 0, none, .mv (.t 37)⟩,
  ⟨(some 10), 0, none, .mv (.t 38)⟩]) (.seq (.seq (.reg [⟨(some 39), 0, none, .mv (.t 0)⟩,
  ⟨(some 40), 0, none, .mv (.t 5)⟩,
  ⟨(some 41), 11, none, .call (.c (.fn 19)) [((.t 39), .view 8), ((.t 40), .plain)]⟩,
  ⟨(some 42), 0, none, .bin .neq (.t 41) (.c (.int .i64 0))⟩,
  ⟨(some 43), 0, none, .mv (.t 42)⟩,
  ⟨(some 44), 0, (some (43, false)), .mv (.t 0)⟩,
  ⟨(some 45), 0, (some (43, false)), .mv (.t 6)⟩,
  ⟨(some 46), 21, (some (43, false)), .call (.c (.fn 19)) [((.t 44), .view 8), ((.t 45), .plain)]⟩,
  ⟨(some 47), 0, (some (43, false)), .bin .neq (.t 46) (.c (.int .i64 0))⟩,
  ⟨(some 48), 0, none, .pick (.t 43) (.c (.bool true)) (.t 47)⟩,
  ⟨(some 49), 0, none, .mv (.t 48)⟩,
  ⟨(some 50), 0, (some (49, false)), .mv (.t 0)⟩,
  ⟨(some 51), 0, (some (49, false)), .mv (.t 7)⟩,
  ⟨(some 52), 31, (some (49, false)), .call (.c (.fn 21)) [((.t 50), .view 8), ((.t 51), .plain)]⟩,
  ⟨(some 53), 0, (some (49, false)), .len false (.t 52)⟩,
  ⟨(some 54), 0, (some (49, false)), .bin .gtr (.t 53) (.c (.int .i64 0))⟩,
  ⟨(some 55), 0, none, .pick (.t 49) (.c (.bool true)) (.t 54)⟩,
  ⟨(some 56), 0, none, .mv (.t 55)⟩,
  ⟨(some 57), 0, (some (56, false)), .mv (.t 0)⟩,
  ⟨(some 58), 0, (some (56, false)), .mv (.t 6)⟩,
  ⟨(some 59), 41, (some (56, false)), .call (.c (.fn 21)) [((.t 57), .view 8), ((.t 58), .plain)]⟩,
  ⟨(some 60), 0, (some (56, false)), .len false (.t 59)⟩,
  ⟨(some 61), 0, (some (56, false)), .bin .gtr (.t 60) (.c (.int .i64 0))⟩,
  ⟨(some 62), 0, (some (56, false)), .mv (.t 61)⟩,
  ⟨(some 63), 0, (some (62, true)), .mv (.t 10)⟩,
  ⟨(some 64), 0, (some (62, true)), .not (.t 63)⟩,
  ⟨(some 65), 0, (some (56, false)), .pick (.t 62) (.t 64) (.c (.bool false))⟩,
  ⟨(some 66), 0, none, .pick (.t 56) (.c (.bool true)) (.t 65)⟩,
  ⟨(some 67), 0, none, .mv (.t 66)⟩,
  ⟨(some 68), 0, (some (67, false)), .mv (.t 7)⟩,
  ⟨(some 69), 0, (some (67, false)), .bin .lss (.t 68) (.c (.int .i32 128))⟩,
  ⟨(some 70), 0, none, .pick (.t 67) (.c (.bool true)) (.t 69)⟩,
  ⟨(some 71), 0, none, .mv (.t 70)⟩,
  ⟨(some 72), 0, (some (71, false)), .mv (.t 6)⟩,
  ⟨(some 73), 0, (some (71, false)), .bin .eql (.t 72) (.c (.int .i32 46))⟩,
  ⟨(some 74), 0, none, .pick (.t 71) (.c (.bool true)) (.t 73)⟩]) (.cond (.t 74) (.seq (.reg [⟨(some 4), 0, none, .mv (.c (.bool false))⟩]) .ret) .skip)) (.seq (.seq (.reg [⟨(some 11), 0, none, .mv (.c (.int .i64 0))⟩]) (.block 0 (.loop n79_0 l79_0))) (.seq (.reg [⟨(some 4), 0, none, .mv (.c (.bool true))⟩]) .ret)))))))
def rs79 : List (Nat × Option Nat × Mode) := [(4, none, .plain)]
theorem chk79 : chkC Try.prog Try.f79.ntmps b79 (Try.f79.body.getD .skip) = true := by decide +kernel
theorem top79 {args : List Arg} {out : Out} (ha : args.length.ble Try.f79.ntmps = true) (h8 : args.length.ble 8 = true) (mss : List (List (Option Nat))) (hb : backOK args out.back)
    (hw : rnC Try.prog b79 (topQ rs79 args mss out) (slotsOf (argsAV argBase args 0) 0) (argsOb argBase args 0)) : CW Try.prog 79 args out :=
  CW.of Try.func79 rs79 mss (by decide +kernel) (by decide +kernel) (by decide +kernel) ha h8 chk79 hb hw
/- endonym/endonymref7.walk -/
def l49_0 : IC := (.seq (.seq (.reg [⟨(some 29), 0, none, .mv (.t 11)⟩,
  ⟨(some 30), 0, none, .mv (.t 2)⟩,
  ⟨(some 31), 0, none, .len false (.t 30)⟩,
  ⟨(some 32), 0, none, .bin .lss (.t 29) (.t 31)⟩]) (.cond (.t 32) .skip (.exit 0))) (.seq (.block 1 (.seq (.reg [⟨(some 35), 0, none, .mv (.t 2)⟩,
  ⟨(some 36), 0, none, .mv (.t 11)⟩,
  ⟨(some 37), 0, none, .ia (.t 35) (.t 36) 1⟩,
  ⟨(some 38), 0, none, .ld (.t 37) none⟩,
  ⟨(some 39), 0, none, .mv (.t 1)⟩,
  ⟨(some 40), 0, none, .bin .eql (.t 38) (.t 39)⟩]) (.cond (.t 40) (.seq (.reg [⟨(some 8), 0, none, .mv (.c .nilsl)⟩,
  ⟨(some 9), 0, none, .mv (.c (.int .i64 72))⟩]) .ret) .skip))) (.reg [⟨(some 33), 0, none, .mv (.t 11)⟩,
  ⟨(some 34), 0, none, .bin .add (.t 33) (.c (.int .i64 1))⟩,
  ⟨(some 11), 0, none, .mv (.t 34)⟩])))
def n49_0 : Norm := ⟨[(0, .plain), (1, .plain), (2, .plain), (3, .own 1 1000003), (10, .own 1 1000010), (11, .plain)], []⟩
def l49_1 : IC := (.seq (.seq (.reg [⟨(some 51), 0, none, .mv (.t 13)⟩,
  ⟨(some 52), 0, none, .mv (.t 10)⟩,
  ⟨(some 53), 0, none, .len false (.t 52)⟩,
  ⟨(some 54), 0, none, .bin .lss (.t 51) (.t 53)⟩]) (.cond (.t 54) .skip (.exit 2))) (.seq (.block 3 (.seq (.reg [⟨(some 14), 0, none, .mv (.c (.int .i64 0))⟩]) (.seq (.reg [⟨(some 58), 0, none, .mv (.t 0)⟩,
  ⟨(some 59), 0, none, .mv (.t 10)⟩,
  ⟨(some 60), 0, none, .mv (.t 13)⟩,
  ⟨(some 61), 0, none, .ia (.t 59) (.t 60) 1⟩,
  ⟨(some 62), 0, none, .ld (.t 61) none⟩,
  ⟨(some 63), 0, none, .mv (.t 12)⟩,
  ⟨(some 64), 0, none, .mv (.t 3)⟩,
  ⟨(some 65), 16, none, .call (.c (.fn 49)) [((.t 58), .view 8), ((.t 62), .plain), ((.t 63), .view 1), ((.t 64), .move 1)]⟩,
  ⟨(some 57), 0, none, .mv (.t 65)⟩,
  ⟨(some 66), 0, none, .ext (.t 57) 0⟩,
  ⟨(some 67), 0, none, .ext (.t 57) 1⟩,
  ⟨(some 3), 0, none, .mv (.t 66)⟩,
  ⟨(some 14), 0, none, .mv (.t 67)⟩]) (.seq (.reg [⟨(some 68), 0, none, .mv (.t 14)⟩,
  ⟨(some 69), 0, none, .bin .neq (.t 68) (.c (.int .i64 0))⟩]) (.cond (.t 69) (.seq (.reg [⟨(some 70), 0, none, .mv (.t 14)⟩,
  ⟨(some 8), 0, none, .mv (.c .nilsl)⟩,
  ⟨(some 9), 0, none, .mv (.t 70)⟩]) .ret) .skip))))) (.reg [⟨(some 55), 0, none, .mv (.t 13)⟩,
  ⟨(some 56), 0, none, .bin .add (.t 55) (.c (.int .i64 1))⟩,
  ⟨(some 13), 0, none, .mv (.t 56)⟩])))
def n49_1 : Norm := ⟨[(0, .plain), (3, .own 1 1000003), (10, .own 1 1000010), (12, .own 1 1000012), (13, .plain)], []⟩
def b49 : IC := (.seq (.reg [⟨(some 8), 0, none, .mv (.c .nilsl)⟩,
  ⟨(some 9), 0, none, .mv (.c (.int .i64 0))⟩]) (.seq (.reg [⟨(some 15), 0, none, .mv (.t 0)⟩,
  ⟨(some 16), 0, none, .mv (.t 1)⟩,
  ⟨(some 17), 1, none, .call (.c (.fn 21)) [((.t 15), .view 8), ((.t 16), .plain)]⟩,
  ⟨(some 10), 0, none, .mv (.t 17)⟩]) (.seq (.seq (.reg [⟨(some 18), 0, none, .mv (.t 10)⟩,
  ⟨(some 19), 0, none, .len false (.t 18)⟩,
  ⟨(some 20), 0, none, .bin .eql (.t 19) (.c (.int .i64 0))⟩]) (.cond (.t 20) (.seq (.reg [⟨(some 21), 0, none, .mv (.t 3)⟩,
  ⟨(some 22), 0, none, .mv (.t 1)⟩,
  ⟨(some 23), 11, none, .bsl 1 [(.t 22)]⟩,
  ⟨(some 24), 12, none, .app (.t 21) (.t 23) 1 4 false⟩,
  ⟨(some 3), 0, none, .mv (.t 24)⟩]) (.seq (.seq (.reg [⟨(some 25), 0, none, .mv (.t 3)⟩,
  ⟨(some 26), 0, none, .len false (.t 25)⟩,
  ⟨(some 27), 0, none, .bin .gtr (.t 26) (.c (.int .i64 32))⟩]) (.cond (.t 27) (.seq (.reg [⟨(some 8), 0, none, .mv (.c .nilsl)⟩,
  ⟨(some 9), 0, none, .mv (.c (.int .i64 2))⟩]) .ret) .skip)) (.seq (.reg [⟨(some 28), 0, none, .mv (.t 3)⟩,
  ⟨(some 8), 0, none, .mv (.t 28)⟩,
  ⟨(some 9), 0, none, .mv (.c (.int .i64 0))⟩]) .ret))) .skip)) (.seq (.seq (.reg [⟨(some 11), 0, none, .mv (.c (.int .i64 0))⟩]) (.block 0 (.loop n49_0 l49_0))) (.seq (.seq (.reg [⟨(some 41), 0, none, .mv (.t 2)⟩,
  ⟨(some 42), 0, none, .len false (.t 41)⟩,
  ⟨(some 43), 0, none, .bin .eql (.t 42) (.c (.int .i64 16))⟩]) (.cond (.t 43) (.seq (.reg [⟨(some 8), 0, none, .mv (.c .nilsl)⟩,
  ⟨(some 9), 0, none, .mv (.c (.int .i64 73))⟩]) .ret) .skip)) (.seq (.reg [⟨(some 12), 0, none, .mv (.c .nilsl)⟩]) (.seq (.reg [⟨(some 44), 0, none, .mv (.t 12)⟩,
  ⟨(some 45), 0, none, .mv (.t 2)⟩,
  ⟨(some 46), 13, none, .app (.t 44) (.t 45) 1 4 false⟩,
  ⟨(some 12), 0, none, .mv (.t 46)⟩]) (.seq (.reg [⟨(some 47), 0, none, .mv (.t 12)⟩,
  ⟨(some 48), 0, none, .mv (.t 1)⟩,
  ⟨(some 49), 14, none, .bsl 1 [(.t 48)]⟩,
  ⟨(some 50), 15, none, .app (.t 47) (.t 49) 1 4 false⟩,
  ⟨(some 12), 0, none, .mv (.t 50)⟩]) (.seq (.seq (.reg [⟨(some 13), 0, none, .mv (.c (.int .i64 0))⟩]) (.block 2 (.loop n49_1 l49_1))) (.seq (.reg [⟨(some 71), 0, none, .mv (.t 3)⟩,
  ⟨(some 8), 0, none, .mv (.t 71)⟩,
  ⟨(some 9), 0, none, .mv (.c (.int .i64 0))⟩]) .ret))))))))))
def rs49 : List (Nat × Option Nat × Mode) := [(8, none, .move 1), (9, none, .plain)]
theorem chk49 : chkC Try.prog Try.f49.ntmps b49 (Try.f49.body.getD .skip) = true := by decide +kernel
theorem top49 {args : List Arg} {out : Out} (ha : args.length.ble Try.f49.ntmps = true) (h8 : args.length.ble 8 = true) (mss : List (List (Option Nat))) (hb : backOK args out.back)
    (hw : rnC Try.prog b49 (topQ rs49 args mss out) (slotsOf (argsAV argBase args 0) 0) (argsOb argBase args 0)) : CW Try.prog 49 args out :=
  CW.of Try.func49 rs49 mss (by decide +kernel) (by decide +kernel) (by decide +kernel) ha h8 chk49 hb hw
/- endonym/endonymref7.Full -/
def b25 : IC := (.seq (.reg [⟨(some 4), 0, none, .mv (.c .nilsl)⟩,
  ⟨(some 5), 0, none, .mv (.c (.int .i64 0))⟩]) (.seq (.reg [⟨(some 6), 0, none, .mv (.t 0)⟩,
  ⟨(some 7), 0, none, .mv (.t 1)⟩,
  ⟨(some 8), 1, none, .call (.c (.fn 49)) [((.t 6), .view 8), ((.t 7), .plain), ((.c .nilsl), .view 1), ((.c .nilsl), .move 1)]⟩,
  ⟨(some 9), 0, none, .ext (.t 8) 0⟩,
  ⟨(some 10), 0, none, .ext (.t 8) 1⟩,
  ⟨(some 4), 0, none, .mv (.t 9)⟩,
  ⟨(some 5), 0, none, .mv (.t 10)⟩]) .ret))
def rs25 : List (Nat × Option Nat × Mode) := [(4, none, .move 1), (5, none, .plain)]
theorem chk25 : chkC Try.prog Try.f25.ntmps b25 (Try.f25.body.getD .skip) = true := by decide +kernel
theorem top25 {args : List Arg} {out : Out} (ha : args.length.ble Try.f25.ntmps = true) (h8 : args.length.ble 8 = true) (mss : List (List (Option Nat))) (hb : backOK args out.back)
    (hw : rnC Try.prog b25 (topQ rs25 args mss out) (slotsOf (argsAV argBase args 0) 0) (argsOb argBase args 0)) : CW Try.prog 25 args out :=
  CW.of Try.func25 rs25 mss (by decide +kernel) (by decide +kernel) (by decide +kernel) ha h8 chk25 hb hw
/- endonym/endonymref7.record -/
def b52 : IC := (.seq (.reg [⟨(some 4), 0, none, .mv (.c (.int .i64 0))⟩]) (.seq (.reg [⟨(some 9), 0, none, .mv (.t 0)⟩,
  ⟨(some 10), 0, none, .mv (.t 1)⟩,
  ⟨(some 11), 0, none, .ia (.t 9) (.t 10) 8⟩,
  ⟨(some 12), 0, none, .ld (.t 11) (some 8)⟩,
  ⟨(some 5), 1, none, .alloc [(.int .i64 0), (.int .i64 0), (.int .i64 0), (.int .i64 0), .nilsl, (.str ⟨#[]⟩), (.str ⟨#[]⟩), (.flt 0)]⟩,
  ⟨none, 0, none, .st (.t 5) (.t 12) (some 8)⟩]) (.seq (.reg [⟨(some 13), 0, none, .fa (.t 5) 0⟩,
  ⟨(some 14), 0, none, .ld (.t 13) none⟩,
  ⟨(some 15), 2, none, .call (.c (.fn 67)) [((.t 14), .plain)]⟩,
  ⟨(some 6), 0, none, .mv (.t 15)⟩]) (.seq (.seq (.reg [⟨(some 16), 0, none, .mv (.t 6)⟩,
  ⟨(some 17), 0, none, .bin .neq (.t 16) (.c (.int .i64 2))⟩,
  ⟨(some 18), 0, none, .mv (.t 17)⟩,
  ⟨(some 19), 0, (some (18, true)), .mv (.t 6)⟩,
  ⟨(some 20), 0, (some (18, true)), .bin .neq (.t 19) (.c (.int .i64 3))⟩,
  ⟨(some 21), 0, none, .pick (.t 18) (.t 20) (.c (.bool false))⟩]) (.cond (.t 21) (.seq (.reg [⟨(some 4), 0, none, .mv (.c (.int .i64 0))⟩]) .ret) .skip)) (.seq (.seq (.reg [⟨(some 22), 0, none, .ld (.t 5) (some 8)⟩,
  ⟨(some 23), 12, none, .call (.c (.fn 74)) [((.t 22), .plain), ((.c (.int .i64 0)), .plain), ((.c (.int .i64 127)), .plain)]⟩]) (.cond (.t 23) (.seq (.reg [⟨(some 4), 0, none, .mv (.c (.int .i64 70))⟩]) .ret) .skip)) (.seq (.seq (.reg [⟨(some 24), 0, none, .ld (.t 5) (some 8)⟩,
  ⟨(some 25), 22, none, .call (.c (.fn 74)) [((.t 24), .plain), ((.c (.int .i64 4352)), .plain), ((.c (.int .i64 4370)), .plain)]⟩,
  ⟨(some 26), 0, none, .mv (.t 25)⟩,
  ⟨(some 27), 0, (some (26, false)), .ld (.t 5) (some 8)⟩,
  ⟨(some 28), 32, (some (26, false)), .call (.c (.fn 74)) [((.t 27), .plain), ((.c (.int .i64 4449)), .plain), ((.c (.int .i64 4469)), .plain)]⟩,
  ⟨(some 29), 0, none, .pick (.t 26) (.c (.bool true)) (.t 28)⟩,
  ⟨(some 30), 0, none, .mv (.t 29)⟩,
  ⟨(some 31), 0, (some (30, false)), .ld (.t 5) (some 8)⟩,
  ⟨(some 32), 42, (some (30, false)), .call (.c (.fn 74)) [((.t 31), .plain), ((.c (.int .i64 4520)), .plain), ((.c (.int .i64 4546)), .plain)]⟩,
  ⟨(some 33), 0, none, .pick (.t 30) (.c (.bool true)) (.t 32)⟩,
  ⟨(some 34), 0, none, .mv (.t 33)⟩,
  ⟨(some 35), 0, (some (34, false)), .ld (.t 5) (some 8)⟩,
  ⟨(some 36), 52, (some (34, false)), .call (.c (.fn 74)) [((.t 35), .plain), ((.c (.int .i64 44032)), .plain), ((.c (.int .i64 55203)), .plain)]⟩,
  ⟨(some 37), 0, none, .pick (.t 34) (.c (.bool true)) (.t 36)⟩]) (.cond (.t 37) (.seq (.reg [⟨(some 4), 0, none, .mv (.c (.int .i64 71))⟩]) .ret) .skip)) (.seq (.seq (.reg [⟨(some 38), 0, none, .fa (.t 5) 0⟩,
  ⟨(some 39), 0, none, .ld (.t 38) none⟩,
  ⟨(some 40), 0, none, .bin .eql (.t 39) (.c (.int .i64 7))⟩,
  ⟨(some 41), 0, none, .mv (.t 40)⟩,
  ⟨(some 42), 0, (some (41, true)), .fa (.t 5) 4⟩,
  ⟨(some 43), 0, (some (41, true)), .ld (.t 42) none⟩,
  ⟨(some 44), 0, (some (41, true)), .ia (.t 43) (.c (.int .i64 0)) 1⟩,
  ⟨(some 45), 0, (some (41, true)), .ld (.t 44) none⟩,
  ⟨(some 46), 62, (some (41, true)), .call (.c (.fn 75)) [((.t 45), .plain)]⟩,
  ⟨(some 47), 0, (some (41, true)), .mv (.t 46)⟩,
  ⟨(some 48), 0, (some (47, true)), .fa (.t 5) 4⟩,
  ⟨(some 49), 0, (some (47, true)), .ld (.t 48) none⟩,
  ⟨(some 50), 0, (some (47, true)), .ia (.t 49) (.c (.int .i64 1)) 1⟩,
  ⟨(some 51), 0, (some (47, true)), .ld (.t 50) none⟩,
  ⟨(some 52), 72, (some (47, true)), .call (.c (.fn 76)) [((.t 51), .plain)]⟩,
  ⟨(some 53), 0, (some (41, true)), .pick (.t 47) (.t 52) (.c (.bool false))⟩,
  ⟨(some 54), 0, (some (41, true)), .mv (.t 53)⟩,
  ⟨(some 55), 0, (some (54, false)), .fa (.t 5) 4⟩,
  ⟨(some 56), 0, (some (54, false)), .ld (.t 55) none⟩,
  ⟨(some 57), 0, (some (54, false)), .ia (.t 56) (.c (.int .i64 0)) 1⟩,
  ⟨(some 58), 0, (some (54, false)), .ld (.t 57) none⟩,
  ⟨(some 59), 82, (some (54, false)), .call (.c (.fn 43)) [((.t 58), .plain)]⟩,
  ⟨(some 60), 0, (some (54, false)), .mv (.t 59)⟩,
  ⟨(some 61), 0, (some (60, true)), .fa (.t 5) 4⟩,
  ⟨(some 62), 0, (some (60, true)), .ld (.t 61) none⟩,
  ⟨(some 63), 0, (some (60, true)), .ia (.t 62) (.c (.int .i64 0)) 1⟩,
  ⟨(some 64), 0, (some (60, true)), .ld (.t 63) none⟩,
  ⟨(some 65), 0, (some (60, true)), .bin .sub (.t 64) (.c (.int .i32 44032))⟩,
  ⟨(some 66), 0, (some (60, true)), .bin .rem (.t 65) (.c (.int .i32 28))⟩,
  ⟨(some 67), 0, (some (60, true)), .bin .eql (.t 66) (.c (.int .i32 0))⟩,
  ⟨(some 68), 0, (some (54, false)), .pick (.t 60) (.t 67) (.c (.bool false))⟩,
  ⟨(some 69), 0, (some (54, false)), .mv (.t 68)⟩,
  ⟨(some 70), 0, (some (69, true)), .fa (.t 5) 4⟩,
  ⟨(some 71), 0, (some (69, true)), .ld (.t 70) none⟩,
  ⟨(some 72), 0, (some (69, true)), .ia (.t 71) (.c (.int .i64 1)) 1⟩,
  ⟨(some 73), 0, (some (69, true)), .ld (.t 72) none⟩,
  ⟨(some 74), 92, (some (69, true)), .call (.c (.fn 77)) [((.t 73), .plain)]⟩,
  ⟨(some 75), 0, (some (54, false)), .pick (.t 69) (.t 74) (.c (.bool false))⟩,
  ⟨(some 76), 0, (some (41, true)), .pick (.t 54) (.c (.bool true)) (.t 75)⟩,
  ⟨(some 77), 0, none, .pick (.t 41) (.t 76) (.c (.bool false))⟩]) (.cond (.t 77) (.seq (.reg [⟨(some 4), 0, none, .mv (.c (.int .i64 71))⟩]) .ret) .skip)) (.seq (.seq (.reg [⟨(some 78), 0, none, .mv (.t 6)⟩,
  ⟨(some 79), 0, none, .bin .eql (.t 78) (.c (.int .i64 2))⟩]) (.cond (.t 79) (.seq (.reg [⟨(some 4), 0, none, .mv (.c (.int .i64 0))⟩]) .ret) .skip)) (.seq (.reg [⟨(some 81), 0, none, .mv (.t 0)⟩,
  ⟨(some 82), 0, none, .fa (.t 5) 1⟩,
  ⟨(some 83), 0, none, .ld (.t 82) none⟩,
  ⟨(some 84), 0, none, .conv .i32 (.t 83)⟩,
  ⟨(some 85), 102, none, .call (.c (.fn 25)) [((.t 81), .view 8), ((.t 84), .plain)]⟩,
  ⟨(some 80), 0, none, .mv (.t 85)⟩,
  ⟨(some 86), 0, none, .ext (.t 80) 0⟩,
  ⟨(some 87), 0, none, .ext (.t 80) 1⟩,
  ⟨(some 7), 0, none, .mv (.t 86)⟩,
  ⟨(some 8), 0, none, .mv (.t 87)⟩]) (.seq (.seq (.reg [⟨(some 88), 0, none, .mv (.t 8)⟩,
  ⟨(some 89), 0, none, .bin .neq (.t 88) (.c (.int .i64 0))⟩]) (.cond (.t 89) (.seq (.reg [⟨(some 90), 0, none, .mv (.t 8)⟩,
  ⟨(some 4), 0, none, .mv (.t 90)⟩]) .ret) .skip)) (.seq (.seq (.reg [⟨(some 91), 0, none, .mv (.t 0)⟩,
  ⟨(some 92), 0, none, .mv (.t 7)⟩,
  ⟨(some 93), 112, none, .call (.c (.fn 78)) [((.t 91), .view 8), ((.t 92), .view 1)]⟩]) (.cond (.t 93) (.seq (.reg [⟨(some 4), 0, none, .mv (.c (.int .i64 75))⟩]) .ret) .skip)) (.seq (.seq (.reg [⟨(some 94), 0, none, .fa (.t 5) 0⟩,
  ⟨(some 95), 0, none, .ld (.t 94) none⟩,
  ⟨(some 96), 0, none, .bin .eql (.t 95) (.c (.int .i64 7))⟩,
  ⟨(some 97), 0, none, .mv (.t 96)⟩,
  ⟨(some 98), 0, (some (97, true)), .mv (.t 0)⟩,
  ⟨(some 99), 0, (some (97, true)), .mv (.t 1)⟩,
  ⟨(some 100), 122, (some (97, true)), .call (.c (.fn 79)) [((.t 98), .view 8), ((.t 99), .plain)]⟩,
  ⟨(some 101), 0, (some (97, true)), .not (.t 100)⟩,
  ⟨(some 102), 0, none, .pick (.t 97) (.t 101) (.c (.bool false))⟩]) (.cond (.t 102) (.seq (.reg [⟨(some 4), 0, none, .mv (.c (.int .i64 74))⟩]) .ret) .skip)) (.seq (.reg [⟨(some 4), 0, none, .mv (.c (.int .i64 0))⟩]) .ret)))))))))))))
def rs52 : List (Nat × Option Nat × Mode) := [(4, none, .plain)]
theorem chk52 : chkC Try.prog Try.f52.ntmps b52 (Try.f52.body.getD .skip) = true := by decide +kernel
theorem top52 {args : List Arg} {out : Out} (ha : args.length.ble Try.f52.ntmps = true) (h8 : args.length.ble 8 = true) (mss : List (List (Option Nat))) (hb : backOK args out.back)
    (hw : rnC Try.prog b52 (topQ rs52 args mss out) (slotsOf (argsAV argBase args 0) 0) (argsOb argBase args 0)) : CW Try.prog 52 args out :=
  CW.of Try.func52 rs52 mss (by decide +kernel) (by decide +kernel) (by decide +kernel) ha h8 chk52 hb hw

/-- Two neighbours whose classes fall. -/
def fallsL (l : List Rec) : List Int → Bool
  | a :: b :: x => (!decide (classL l b = 0) && decide (classL l b < classL l a)) || fallsL l (b :: x)
  | _ => false
theorem fallsL_short (l : List Rec) : ∀ y : List Int, y.length ≤ 1 → fallsL l y = false
  | [], _ => rfl
  | [_], _ => rfl
  | _ :: _ :: _, h => by simp at h
theorem w78 (l : List Rec) (x : List Int) (hl : ∀ r ∈ l, r.ok) (hn : l.length < 9223372036854775808) (hx : ∀ c ∈ x, i32ok c) (hxn : x.length < 9223372036854775807) (Q : Ex → Slots → LH → Prop) (hQ : ∀ σ H, Slots.get σ 4 = .c (.bool (fallsL l x)) → Q .ret σ H) : rnC Try.prog b78 Q [(0, .c (.sl 8 (recs l))), (1, .c (.sl 1 (runes x)))] [] := by
  unfold b78
  simp only [go_sem, ↓reduceIte, Nat.reduceEqDiff, Nat.reduceMul, Nat.reduceAdd, Nat.reduceDiv, Nat.reduceSub, Nat.reduceLT, Nat.reduceLeDiff, Int.reduceLE, Int.reduceLT, Int.reduceToNat, Int.reduceEq]
  refine loopR.by (α := Nat) (fun i => [(0, .c (.sl 8 (recs l))), (1, .c (.sl 1 (runes x))), (5, .c (.int .i64 i))]) (fun i => []) (fun i => x.length + 1 - i) (fun i => 1 ≤ i ∧ i ≤ x.length + 1 ∧ (fallsL l (x.drop (i - 1)) = fallsL l x)) 1 ⟨by decide, by omega, rfl⟩ ?_ ?_
  · intro Y hY
    simp only [go_sem, ↓reduceIte, Nat.reduceEqDiff, Nat.reduceMul, Nat.reduceAdd, Nat.reduceDiv, Nat.reduceSub, Nat.reduceLT, Nat.reduceLeDiff, Int.reduceLE, Int.reduceLT, Int.reduceToNat, Int.reduceEq, n78_0]
    exact hY
  intro i hk Y hY
  unfold l78_0
  rcases Nat.lt_or_ge i x.length with hlt | hge
  · obtain ⟨b, e, hm, hd⟩ := runes_at hlt
    obtain ⟨a, e2, hm2, hd2⟩ := runes_at (show i - 1 < x.length by omega)
    have hf := hk.2.2
    have hi : i - 1 + 1 = i := by omega
    rw [hd2, hi, hd, fallsL] at hf
    have hw : IntKind.i64.wrap ((i : Int) - 1) = ((i - 1 : Nat) : Int) := by rw [wrap_i64]; omega
    simp only [go_sem, ↓reduceIte, Nat.reduceEqDiff, Nat.reduceMul, Nat.reduceAdd, Nat.reduceDiv, Nat.reduceSub, Nat.reduceLT, Nat.reduceLeDiff, Int.reduceLE, Int.reduceLT, Int.reduceToNat, Int.reduceEq, n78_0, e, hw, e2]
    refine ⟨fun _ => ?_, fun h => by omega⟩
    repeat (refine ⟨by (first | omega | (intro h1 h2; exact ⟨h1, h2⟩) | (intro h1; omega) | (intro h1; exact h1) | trivial), ?_⟩)
    refine callK_1 _ (fun _ => cw19 l b hl hn (hx _ hm)) (by simp only [go_sem, ↓reduceIte, Nat.reduceEqDiff, Nat.reduceMul, Nat.reduceAdd, Nat.reduceDiv, Nat.reduceSub, Nat.reduceLT, Nat.reduceLeDiff, Int.reduceLE, Int.reduceLT, Int.reduceToNat, Int.reduceEq]) rfl rfl ?_
    simp only [go_sem, ↓reduceIte, Nat.reduceEqDiff, Nat.reduceMul, Nat.reduceAdd, Nat.reduceDiv, Nat.reduceSub, Nat.reduceLT, Nat.reduceLeDiff, Int.reduceLE, Int.reduceLT, Int.reduceToNat, Int.reduceEq, hw, e2]
    repeat (refine ⟨by (first | omega | (intro h1 h2; exact ⟨h1, h2⟩) | (intro h1; omega) | (intro h1; exact h1) | trivial), ?_⟩)
    refine callK_1 _ (fun _ => cw19 l a hl hn (hx _ hm2)) (by simp only [go_sem, ↓reduceIte, Nat.reduceEqDiff, Nat.reduceMul, Nat.reduceAdd, Nat.reduceDiv, Nat.reduceSub, Nat.reduceLT, Nat.reduceLeDiff, Int.reduceLE, Int.reduceLT, Int.reduceToNat, Int.reduceEq]) rfl rfl ?_
    simp only [go_sem, ↓reduceIte, Nat.reduceEqDiff, Nat.reduceMul, Nat.reduceAdd, Nat.reduceDiv, Nat.reduceSub, Nat.reduceLT, Nat.reduceLeDiff, Int.reduceLE, Int.reduceLT, Int.reduceToNat, Int.reduceEq]
    repeat (refine ⟨by (first | omega | (intro h1 h2; exact ⟨h1, h2⟩) | (intro h1; omega) | (intro h1; exact h1) | trivial), ?_⟩)
    rw [succ64 hlt (by omega)]
    refine ⟨fun h1 => hQ _ _ ?_, fun h1 => hY (i + 1) ⟨by omega, by omega, ?_⟩ (by omega)⟩
    · simp only [go_sem, ↓reduceIte, Nat.reduceEqDiff, Nat.reduceMul, Nat.reduceAdd, Nat.reduceDiv, Nat.reduceSub, Nat.reduceLT, Nat.reduceLeDiff, Int.reduceLE, Int.reduceLT, Int.reduceToNat, Int.reduceEq]
      rw [← hf]
      simp [h1.1, h1.2]
    · rw [← hf, show i + 1 - 1 = i by omega, hd]
      have : (!decide (classL l b = 0) && decide (classL l b < classL l a)) = false := by
        rcases h1 with h1 | h1 <;> simp [h1]
      rw [this, Bool.false_or]
  · simp only [go_sem, ↓reduceIte, Nat.reduceEqDiff, Nat.reduceMul, Nat.reduceAdd, Nat.reduceDiv, Nat.reduceSub, Nat.reduceLT, Nat.reduceLeDiff, Int.reduceLE, Int.reduceLT, Int.reduceToNat, Int.reduceEq, n78_0]
    refine ⟨fun h => by omega, fun _ => hQ _ _ ?_⟩
    simp only [go_sem, ↓reduceIte, Nat.reduceEqDiff, Nat.reduceMul, Nat.reduceAdd, Nat.reduceDiv, Nat.reduceSub, Nat.reduceLT, Nat.reduceLeDiff, Int.reduceLE, Int.reduceLT, Int.reduceToNat, Int.reduceEq]
    rw [← hk.2.2, fallsL_short l _ (by rw [List.length_drop]; omega)]
theorem cw78 (l : List Rec) (x : List Int) (hl : ∀ r ∈ l, r.ok) (hn : l.length < 9223372036854775808) (hx : ∀ c ∈ x, i32ok c) (hxn : x.length < 9223372036854775807) : CW Try.prog 78 [.cv (.sl 8 (recs l)), .cv (.sl 1 (runes x))] ⟨[.cv (.bool (fallsL l x))], []⟩ :=
  top78 rfl rfl [] trivial (w78 l x hl hn hx hxn _ fun σ H h => ret1 rfl h)
def plainL (l : List Rec) (c : Int) : Bool :=
  match hit l 1 c with
  | some r => decide (r.kind = 1)
  | none => false
theorem w53 (l : List Rec) (c : Int) (hl : ∀ r ∈ l, r.ok) (hn : l.length < 9223372036854775808) (hc : i32ok c) (Q : Ex → Slots → LH → Prop) (hQ : ∀ σ H, Slots.get σ 4 = .c (.bool (plainL l c)) → Q .ret σ H) : rnC Try.prog b53 Q [(0, .c (.sl 8 (recs l))), (1, .c (.int .i32 c))] [] := by
  unfold b53
  simp only [go_sem, ↓reduceIte, Nat.reduceEqDiff, Nat.reduceMul, Nat.reduceAdd, Nat.reduceDiv, Nat.reduceSub, Nat.reduceLT, Nat.reduceLeDiff, Int.reduceLE, Int.reduceLT, Int.reduceToNat, Int.reduceEq]
  refine callK_1 _ (fun _ => cw44 l _ _ (by decide) hl hn hc) (by simp only [go_sem, ↓reduceIte, Nat.reduceEqDiff, Nat.reduceMul, Nat.reduceAdd, Nat.reduceDiv, Nat.reduceSub, Nat.reduceLT, Nat.reduceLeDiff, Int.reduceLE, Int.reduceLT, Int.reduceToNat, Int.reduceEq]) rfl rfl ?_
  rcases find_cases l 1 c with ⟨h1, h2⟩ | ⟨k, r, h1, h2, h3, h4, h5⟩
  · have e : (recs l).getD 0 .undef = .undef ∨ ∃ r : Rec, (recs l).getD 0 .undef = r.cv := by
      cases l with
      | nil => exact .inl rfl
      | cons r l => exact .inr ⟨r, rfl⟩
    rcases e with e | ⟨r, e⟩ <;> simp only [go_sem, ↓reduceIte, Nat.reduceEqDiff, Nat.reduceMul, Nat.reduceAdd, Nat.reduceDiv, Nat.reduceSub, Nat.reduceLT, Nat.reduceLeDiff, Int.reduceLE, Int.reduceLT, Int.reduceToNat, Int.reduceEq, h1, e]
    all_goals exact hQ _ _ (by simp only [go_sem, ↓reduceIte, Nat.reduceEqDiff, Nat.reduceMul, Nat.reduceAdd, Nat.reduceDiv, Nat.reduceSub, Nat.reduceLT, Nat.reduceLeDiff, Int.reduceLE, Int.reduceLT, Int.reduceToNat, Int.reduceEq, plainL, h2])
  · simp only [go_sem, ↓reduceIte, Nat.reduceEqDiff, Nat.reduceMul, Nat.reduceAdd, Nat.reduceDiv, Nat.reduceSub, Nat.reduceLT, Nat.reduceLeDiff, Int.reduceLE, Int.reduceLT, Int.reduceToNat, Int.reduceEq, h1, h3]
    repeat (refine ⟨by (first | omega | (intro h1 h2; exact ⟨h1, h2⟩) | (intro h1; omega) | (intro h1; exact h1) | trivial), ?_⟩)
    have hk : (0 : Int) ≤ k := by omega
    refine hQ _ _ ?_
    simp only [go_sem, ↓reduceIte, Nat.reduceEqDiff, Nat.reduceMul, Nat.reduceAdd, Nat.reduceDiv, Nat.reduceSub, Nat.reduceLT, Nat.reduceLeDiff, Int.reduceLE, Int.reduceLT, Int.reduceToNat, Int.reduceEq, plainL, h5, hk]
    simp [Bool.beq_eq_decide_eq]
theorem cw53 (l : List Rec) (c : Int) (hl : ∀ r ∈ l, r.ok) (hn : l.length < 9223372036854775808) (hc : i32ok c) : CW Try.prog 53 [.cv (.sl 8 (recs l)), .cv (.int .i32 c)] ⟨[.cv (.bool (plainL l c))], []⟩ :=
  top53 rfl rfl [] trivial (w53 l c hl hn hc _ fun σ H h => ret1 rfl h)
theorem runes_cases (x : List Int) (k : Nat) : (runes x).getD k .undef = .undef ∨ ∃ p, (runes x).getD k .undef = .int .i32 p := by
  rcases Nat.lt_or_ge k x.length with h | h
  · exact .inr ⟨_, runes_get h⟩
  · left; simp [runes, List.getD_eq_getElem?_getD, h]
/-- Whether a record's two may compose. -/
def pairsL (l : List Rec) (r : Rec) : Bool :=
  match r.to with
  | [a, b] => decide (classL l (IntKind.i32.wrap r.lo) = 0) && decide (classL l a = 0) && decide (openL l b = []) && (decide (openL l a = []) || (primL l a).2.2) && decide (128 ≤ b) && !decide (a = 46)
  | _ => false
theorem i32wrap_ok (x : Int) : i32ok (IntKind.i32.wrap x) := by unfold i32ok; rw [wrap_i32]; omega
theorem len_pos {α : Type} (l : List α) : ((0 : Int) < (l.length : Int)) = ¬ (l = []) := by cases l <;> simp
theorem w79 (l : List Rec) (i : Nat) (r : Rec) (a b : Int) (hi : i < l.length) (hr : (recs l).getD i .undef = r.cv) (hm : r ∈ l) (hto2 : r.to = [a, b]) (h7 : ∀ r ∈ l, r.kind = 7 → r.to.length = 2) (hl : ∀ r ∈ l, r.ok) (hn : l.length < 9223372036854775808) (hto : ∀ r ∈ l, r.to.length ≤ 35184372088832) (Q : Ex → Slots → LH → Prop) (hQ : ∀ σ H, Slots.get σ 4 = .c (.bool ((pairsL l r && !(l.take i).any (fun o => decide (o.kind = 7) && decide (o.to = r.to))))) → Q .ret σ H) : rnC Try.prog b79 Q [(0, .c (.sl 8 (recs l))), (1, .c (.int .i64 i))] [] := by
  unfold b79
  have e0 : (runes r.to).getD 0 .undef = .int .i32 a := by simp [hto2, runes]
  have e1 : (runes r.to).getD 1 .undef = .int .i32 b := by simp [hto2, runes]
  have el : r.to.length = 2 := by simp [hto2]
  have ha : i32ok a := (hl r hm).2.2.2.2 a (by simp [hto2])
  have hb : i32ok b := (hl r hm).2.2.2.2 b (by simp [hto2])
  simp only [go_sem, ↓reduceIte, Nat.reduceEqDiff, Nat.reduceMul, Nat.reduceAdd, Nat.reduceDiv, Nat.reduceSub, Nat.reduceLT, Nat.reduceLeDiff, Int.reduceLE, Int.reduceLT, Int.reduceToNat, Int.reduceEq, hr, e0, e1, el]
  repeat (refine ⟨by (first | omega | (intro h1 h2; exact ⟨h1, h2⟩) | (intro h1; omega) | (intro h1; exact h1) | trivial), ?_⟩)
  refine callK_3 _ _ _ (fun _ => cw17 l a hl hn hto ha) (by simp only [go_sem, ↓reduceIte, Nat.reduceEqDiff, Nat.reduceMul, Nat.reduceAdd, Nat.reduceDiv, Nat.reduceSub, Nat.reduceLT, Nat.reduceLeDiff, Int.reduceLE, Int.reduceLT, Int.reduceToNat, Int.reduceEq]) rfl rfl ?_
  simp only [go_sem, ↓reduceIte, Nat.reduceEqDiff, Nat.reduceMul, Nat.reduceAdd, Nat.reduceDiv, Nat.reduceSub, Nat.reduceLT, Nat.reduceLeDiff, Int.reduceLE, Int.reduceLT, Int.reduceToNat, Int.reduceEq]
  repeat (refine ⟨by (first | omega | (intro h1 h2; exact ⟨h1, h2⟩) | (intro h1; omega) | (intro h1; exact h1) | trivial), ?_⟩)
  refine callK_1 _ (fun _ => cw19 l _ hl hn (i32wrap_ok _)) (by simp only [go_sem, ↓reduceIte, Nat.reduceEqDiff, Nat.reduceMul, Nat.reduceAdd, Nat.reduceDiv, Nat.reduceSub, Nat.reduceLT, Nat.reduceLeDiff, Int.reduceLE, Int.reduceLT, Int.reduceToNat, Int.reduceEq]) rfl rfl ?_
  simp only [go_sem, ↓reduceIte, Nat.reduceEqDiff, Nat.reduceMul, Nat.reduceAdd, Nat.reduceDiv, Nat.reduceSub, Nat.reduceLT, Nat.reduceLeDiff, Int.reduceLE, Int.reduceLT, Int.reduceToNat, Int.reduceEq]
  repeat (refine ⟨by (first | omega | (intro h1 h2; exact ⟨h1, h2⟩) | (intro h1; omega) | (intro h1; exact h1) | trivial), ?_⟩)
  refine callK_1 _ (fun _ => cw19 l a hl hn ha) (by simp only [go_sem, ↓reduceIte, Nat.reduceEqDiff, Nat.reduceMul, Nat.reduceAdd, Nat.reduceDiv, Nat.reduceSub, Nat.reduceLT, Nat.reduceLeDiff, Int.reduceLE, Int.reduceLT, Int.reduceToNat, Int.reduceEq]) rfl rfl ?_
  simp only [go_sem, ↓reduceIte, Nat.reduceEqDiff, Nat.reduceMul, Nat.reduceAdd, Nat.reduceDiv, Nat.reduceSub, Nat.reduceLT, Nat.reduceLeDiff, Int.reduceLE, Int.reduceLT, Int.reduceToNat, Int.reduceEq]
  repeat (refine ⟨by (first | omega | (intro h1 h2; exact ⟨h1, h2⟩) | (intro h1; omega) | (intro h1; exact h1) | trivial), ?_⟩)
  refine callK_1 _ (fun _ => CW.pubRes rfl (cw21 l b hl hn hto hb)) (by simp only [go_sem, ↓reduceIte, Nat.reduceEqDiff, Nat.reduceMul, Nat.reduceAdd, Nat.reduceDiv, Nat.reduceSub, Nat.reduceLT, Nat.reduceLeDiff, Int.reduceLE, Int.reduceLT, Int.reduceToNat, Int.reduceEq]) rfl rfl ?_
  simp only [go_sem, ↓reduceIte, Nat.reduceEqDiff, Nat.reduceMul, Nat.reduceAdd, Nat.reduceDiv, Nat.reduceSub, Nat.reduceLT, Nat.reduceLeDiff, Int.reduceLE, Int.reduceLT, Int.reduceToNat, Int.reduceEq, len_pos]
  repeat (refine ⟨by (first | omega | (intro h1 h2; exact ⟨h1, h2⟩) | (intro h1; omega) | (intro h1; exact h1) | trivial), ?_⟩)
  refine callK_1 _ (fun _ => CW.pubRes rfl (cw21 l a hl hn hto ha)) (by simp only [go_sem, ↓reduceIte, Nat.reduceEqDiff, Nat.reduceMul, Nat.reduceAdd, Nat.reduceDiv, Nat.reduceSub, Nat.reduceLT, Nat.reduceLeDiff, Int.reduceLE, Int.reduceLT, Int.reduceToNat, Int.reduceEq]) rfl rfl ?_
  simp only [go_sem, ↓reduceIte, Nat.reduceEqDiff, Nat.reduceMul, Nat.reduceAdd, Nat.reduceDiv, Nat.reduceSub, Nat.reduceLT, Nat.reduceLeDiff, Int.reduceLE, Int.reduceLT, Int.reduceToNat, Int.reduceEq, len_pos]
  repeat (refine ⟨by (first | omega | (intro h1 h2; exact ⟨h1, h2⟩) | (intro h1; omega) | (intro h1; exact h1) | trivial), ?_⟩)
  have hp : pairsL l r = (decide (classL l (IntKind.i32.wrap r.lo) = 0) && decide (classL l a = 0) && decide (openL l b = []) && (decide (openL l a = []) || (primL l a).2.2) && decide (128 ≤ b) && !decide (a = 46)) := by
    unfold pairsL; rw [hto2]
  refine ⟨fun h => ?_, fun h => ?_⟩
  · apply hQ
    all_goals simp only [go_sem, ↓reduceIte, Nat.reduceEqDiff, Nat.reduceMul, Nat.reduceAdd, Nat.reduceDiv, Nat.reduceSub, Nat.reduceLT, Nat.reduceLeDiff, Int.reduceLE, Int.reduceLT, Int.reduceToNat, Int.reduceEq]
    have : pairsL l r = false := by rw [hp]; grind
    rw [this]; rfl
  have h1 : pairsL l r = true := by rw [hp]; grind
  rw [h1, Bool.true_and] at hQ
  refine loopR.by (α := Nat) (fun k => [(0, .c (.sl 8 (recs l))), (1, .c (.int .i64 i)), (6, .c (.int .i32 a)), (7, .c (.int .i32 b)), (11, .c (.int .i64 k))]) (fun _ => []) (fun k => i - k)
    (fun k => k ≤ i ∧ (((l.take i).drop k).any (fun o => decide (o.kind = 7) && decide (o.to = r.to)) = (l.take i).any (fun o => decide (o.kind = 7) && decide (o.to = r.to)))) 0 ⟨Nat.zero_le _, rfl⟩ ?_ ?_
  · intro Z hZ
    simp only [go_sem, ↓reduceIte, Nat.reduceEqDiff, Nat.reduceMul, Nat.reduceAdd, Nat.reduceDiv, Nat.reduceSub, Nat.reduceLT, Nat.reduceLeDiff, Int.reduceLE, Int.reduceLT, Int.reduceToNat, Int.reduceEq, n79_0]
    exact hZ
  intro k hk2 Z hZ
  unfold l79_0
  rcases Nat.lt_or_ge k i with hlt2 | hge2
  · obtain ⟨o, e2, hm2, hd2⟩ := recs_at (show k < l.length by omega)
    have hf2 := hk2.2
    have hd3 : (l.take i).drop k = o :: (l.take i).drop (k + 1) := by
      have h1 : k < (l.take i).length := by rw [List.length_take]; omega
      rw [List.drop_eq_getElem_cons h1]
      congr 1
      rw [List.getElem_take]
      have h2 : l.drop k = l[k] :: l.drop (k + 1) := List.drop_eq_getElem_cons (by omega)
      rw [h2] at hd2
      injection hd2
    rw [hd3, List.any_cons] at hf2
    by_cases h7o : o.kind = 7
    · have hl2 := h7 o hm2 h7o
      obtain ⟨p, q, hpq⟩ : ∃ p q, o.to = [p, q] := by
        match ho : o.to, hl2 with
        | [p, q], _ => exact ⟨p, q, rfl⟩
      have f0 : (runes o.to).getD 0 .undef = .int .i32 p := by simp [hpq, runes]
      have f1 : (runes o.to).getD 1 .undef = .int .i32 q := by simp [hpq, runes]
      simp only [go_sem, ↓reduceIte, Nat.reduceEqDiff, Nat.reduceMul, Nat.reduceAdd, Nat.reduceDiv, Nat.reduceSub, Nat.reduceLT, Nat.reduceLeDiff, Int.reduceLE, Int.reduceLT, Int.reduceToNat, Int.reduceEq, n79_0, e2, f0, f1, hl2, h7o]
      refine ⟨fun _ => ?_, fun h => by omega⟩
      repeat (refine ⟨by (first | omega | (intro h1 h2; exact ⟨h1, h2⟩) | (intro h1; omega) | (intro h1; exact h1) | trivial), ?_⟩)
      have e5 : decide (o.to = r.to) = (decide (p = a) && decide (q = b)) := by rw [hpq, hto2]; simp
      rw [e5] at hf2
      refine ⟨fun h1 => hQ _ _ ?_, fun h1 => ?_⟩
      · simp only [go_sem, ↓reduceIte, Nat.reduceEqDiff, Nat.reduceMul, Nat.reduceAdd, Nat.reduceDiv, Nat.reduceSub, Nat.reduceLT, Nat.reduceLeDiff, Int.reduceLE, Int.reduceLT, Int.reduceToNat, Int.reduceEq]
        rw [← hf2]; simp [h7o, h1]
      · rw [succ64 hlt2 (by omega)]
        refine hZ (k + 1) ⟨hlt2, ?_⟩ (by omega)
        rw [← hf2]
        have : (decide (p = a) && decide (q = b)) = false := by grind
        rw [this]; simp
    · have hk7 : (o.kind == 7) = false := by simpa using h7o
      rw [show decide (o.kind = 7) = false by simpa using h7o, Bool.false_and, Bool.false_or] at hf2
      rcases runes_cases o.to 0 with f0 | ⟨p, f0⟩ <;> rcases runes_cases o.to 1 with f1 | ⟨q, f1⟩ <;> simp only [go_sem, ↓reduceIte, Nat.reduceEqDiff, Nat.reduceMul, Nat.reduceAdd, Nat.reduceDiv, Nat.reduceSub, Nat.reduceLT, Nat.reduceLeDiff, Int.reduceLE, Int.reduceLT, Int.reduceToNat, Int.reduceEq, n79_0, e2, hk7, h7o, f0, f1]
      all_goals
        refine ⟨fun _ => ?_, fun h => by omega⟩
        repeat (refine ⟨by (first | omega | (intro h1 h2; exact ⟨h1, h2⟩) | (intro h1; omega) | (intro h1; exact h1) | trivial), ?_⟩)
        rw [succ64 hlt2 (by omega)]
        exact hZ (k + 1) ⟨hlt2, hf2⟩ (by omega)
  · simp only [go_sem, ↓reduceIte, Nat.reduceEqDiff, Nat.reduceMul, Nat.reduceAdd, Nat.reduceDiv, Nat.reduceSub, Nat.reduceLT, Nat.reduceLeDiff, Int.reduceLE, Int.reduceLT, Int.reduceToNat, Int.reduceEq, n79_0]
    refine ⟨fun h => by omega, fun _ => hQ _ _ ?_⟩
    have hki : k = i := by omega
    have hf2 := hk2.2
    rw [hki, List.drop_eq_nil_of_le (by rw [List.length_take]; omega), List.any_nil] at hf2
    simp only [go_sem, ↓reduceIte, Nat.reduceEqDiff, Nat.reduceMul, Nat.reduceAdd, Nat.reduceDiv, Nat.reduceSub, Nat.reduceLT, Nat.reduceLeDiff, Int.reduceLE, Int.reduceLT, Int.reduceToNat, Int.reduceEq]
    rw [← hf2]; rfl
theorem cw79 (l : List Rec) (i : Nat) (r : Rec) (a b : Int) (hi : i < l.length) (hr : (recs l).getD i .undef = r.cv) (hm : r ∈ l) (hto2 : r.to = [a, b]) (h7 : ∀ r ∈ l, r.kind = 7 → r.to.length = 2) (hl : ∀ r ∈ l, r.ok) (hn : l.length < 9223372036854775808) (hto : ∀ r ∈ l, r.to.length ≤ 35184372088832) : CW Try.prog 79 [.cv (.sl 8 (recs l)), .cv (.int .i64 i)] ⟨[.cv (.bool ((pairsL l r && !(l.take i).any (fun o => decide (o.kind = 7) && decide (o.to = r.to)))))], []⟩ :=
  top79 rfl rfl [] trivial (w79 l i r a b hi hr hm hto2 h7 hl hn hto _ fun σ H h => ret1 rfl h)
/-- The full decomposition under way: n steps down are left. -/
def walkN (l : List Rec) : Nat → Int → List Int → List Int → Except Int (List Int)
  | n, c, way, out =>
    if openL l c = [] then (if 32 < out.length + 1 then .error 2 else .ok (out ++ [c])) else
    if c ∈ way then .error 72 else
    match n with
    | 0 => .error 73
    | n + 1 => (openL l c).foldlM (fun out t => walkN l n t (way ++ [c]) out) out
def resL : Except Int (List Int) → List Int
  | .ok x => x
  | .error _ => []
def resE : Except Int (List Int) → Int
  | .ok _ => 0
  | .error e => e
theorem hit_mem {l : List Rec} {f c : Int} {r : Rec} (h : hit l f c = some r) : r ∈ l := by
  unfold hit at h
  split at h
  · cases h
  · exact List.mem_of_find?_eq_some h
theorem openL_ok {l : List Rec} {c : Int} (hl : ∀ r ∈ l, r.ok) (hc : i32ok c) : ∀ t ∈ openL l c, i32ok t := by
  intro t ht
  unfold openL at ht
  split at ht
  · have hp : i32ok (partA c) ∧ i32ok (partB c) := by
      unfold partA partB
      split <;> exact ⟨i32wrap_ok _, i32wrap_ok _⟩
    simp only [List.mem_cons, List.not_mem_nil, or_false] at ht
    rcases ht with rfl | rfl
    · exact hp.1
    · exact hp.2
  · split at ht
    · rename_i r hr; exact (hl r (hit_mem hr)).2.2.2.2 t ht
    · cases ht
theorem runes_app (a : List Int) (c : Int) : runes a ++ [CV.int .i32 c] = runes (a ++ [c]) := by simp [runes]
theorem runes_apps (a b : List Int) : runes a ++ runes b = runes (a ++ b) := by simp [runes]
theorem runes_take (a : List Int) : List.take a.length (runes a) = runes a := List.take_of_length_le (by simp [runes])
theorem runes_one (c : Int) : [CV.int .i32 c] = runes [c] := rfl
theorem runes_scalar (a : List Int) : ∀ x ∈ runes a, x.scalar = true := by
  intro x hx
  obtain ⟨c, _, rfl⟩ := List.mem_map.1 hx
  rfl
theorem walkN_unfold (l : List Rec) (n : Nat) (c : Int) (way out : List Int) : walkN l n c way out =
    if openL l c = [] then (if 32 < out.length + 1 then .error 2 else .ok (out ++ [c])) else
    if c ∈ way then .error 72 else
    match n with
    | 0 => .error 73
    | n + 1 => (openL l c).foldlM (fun out t => walkN l n t (way ++ [c]) out) out := by
  cases n <;> rfl
theorem foldlM_len {f : List Int → Int → Except Int (List Int)} (hf : ∀ o t x, o.length ≤ 32 → f o t = .ok x → x.length ≤ 32) :
    ∀ (ts : List Int) (o x : List Int), o.length ≤ 32 → ts.foldlM f o = .ok x → x.length ≤ 32
  | [], o, x, ho, h => by cases h; exact ho
  | t :: ts, o, x, ho, h => by
    rw [List.foldlM_cons] at h
    cases hx : f o t with
    | error e => rw [hx] at h; cases h
    | ok y => rw [hx] at h; exact foldlM_len hf ts y x (hf _ _ _ ho hx) h
theorem walkN_len (l : List Rec) : ∀ (n : Nat) (c : Int) (way out x : List Int), out.length ≤ 32 → walkN l n c way out = .ok x → x.length ≤ 32 := by
  intro n
  induction n with
  | zero =>
    intro c way out x ho h
    rw [walkN_unfold] at h
    split at h
    · split at h
      · cases h
      · cases h; rw [List.length_append]; simp; omega
    · split at h <;> cases h
  | succ n ih =>
    intro c way out x ho h
    rw [walkN_unfold] at h
    split at h
    · split at h
      · cases h
      · cases h; rw [List.length_append]; simp; omega
    · split at h
      · cases h
      · exact foldlM_len (fun o t x ho h => ih t _ o x ho h) _ _ _ ho h
theorem foldlM_ne {f : List Int → Int → Except Int (List Int)} (hf : ∀ o t e, f o t = .error e → e ≠ 0) :
    ∀ (ts : List Int) (o : List Int) (e : Int), ts.foldlM f o = .error e → e ≠ 0
  | [], o, e, h => by cases h
  | t :: ts, o, e, h => by
    rw [List.foldlM_cons] at h
    cases hx : f o t with
    | error e' => rw [hx] at h; cases h; exact hf _ _ _ hx
    | ok y => rw [hx] at h; exact foldlM_ne hf ts y e h
theorem walkN_ne (l : List Rec) : ∀ (n : Nat) (c : Int) (way out : List Int) (e : Int), walkN l n c way out = .error e → e ≠ 0 := by
  intro n
  induction n with
  | zero =>
    intro c way out e h
    rw [walkN_unfold] at h
    split at h
    · split at h
      · cases h; decide
      · cases h
    · split at h <;> (cases h; decide)
  | succ n ih =>
    intro c way out e h
    rw [walkN_unfold] at h
    split at h
    · split at h
      · cases h; decide
      · cases h
    · split at h
      · cases h; decide
      · exact foldlM_ne (fun o t e h => ih t _ o e h) _ _ _ h
theorem w49 (l : List Rec) (hl : ∀ r ∈ l, r.ok) (hn : l.length < 9223372036854775808) (hto : ∀ r ∈ l, r.to.length ≤ 35184372088832) (n : Nat) (c : Int) (way out : List Int) (hc : i32ok c) (hw : way.length + n = 16) (ho : out.length ≤ 32) (ih : ∀ m, n = m + 1 → ∀ t o, i32ok t → o.length ≤ 32 → CW Try.prog 49 [.cv (.sl 8 (recs l)), .cv (.int .i32 t), .cv (.sl 1 (runes (way ++ [c]))), .own 1 (runes o)] ⟨[.own 1 (runes (resL (walkN l m t (way ++ [c]) o))), .cv (.int .i64 (resE (walkN l m t (way ++ [c]) o)))], []⟩) (Q : Ex → Slots → LH → Prop) (hQ : ∀ σ H, OwnAt 1 (runes (resL (walkN l n c way out))) (Slots.get σ 8) H → Slots.get σ 9 = .c (.int .i64 (resE (walkN l n c way out))) → Q .ret σ H) : rnC Try.prog b49 Q [(0, .c (.sl 8 (recs l))), (1, .c (.int .i32 c)), (2, .c (.sl 1 (runes way))), (3, .osl 3000192 0 (runes out).length)] [(3000192, .row 1 (runes out))] := by
  unfold b49
  have hop : (openL l c).length ≤ 35184372088832 := by
    unfold openL
    split
    · simp
    · split
      · rename_i r hr; exact hto r (hit_mem hr)
      · simp
  have hoo : ∀ t ∈ openL l c, i32ok t := openL_ok hl hc
  simp only [go_sem, ↓reduceIte, Nat.reduceEqDiff, Nat.reduceMul, Nat.reduceAdd, Nat.reduceDiv, Nat.reduceSub, Nat.reduceLT, Nat.reduceLeDiff, Int.reduceLE, Int.reduceLT, Int.reduceToNat, Int.reduceEq]
  refine callK_O 1 (runes (openL l c)) (fun _ => cw21 l c hl hn hto hc) (by simp only [go_sem, ↓reduceIte, Nat.reduceEqDiff, Nat.reduceMul, Nat.reduceAdd, Nat.reduceDiv, Nat.reduceSub, Nat.reduceLT, Nat.reduceLeDiff, Int.reduceLE, Int.reduceLT, Int.reduceToNat, Int.reduceEq]) rfl rfl ?_
  simp only [go_sem, ↓reduceIte, Nat.reduceEqDiff, Nat.reduceMul, Nat.reduceAdd, Nat.reduceDiv, Nat.reduceSub, Nat.reduceLT, Nat.reduceLeDiff, Int.reduceLE, Int.reduceLT, Int.reduceToNat, Int.reduceEq]
  repeat (refine ⟨by (first | omega | (intro h1 h2; exact ⟨h1, h2⟩) | (intro h1; omega) | (intro h1; exact h1) | trivial), ?_⟩)
  refine ⟨fun h0 => ⟨by omega, fun h1 => ?_, fun h1 => ?_⟩, fun h0 => ?_⟩
  · have e : walkN l n c way out = .error 2 := by rw [walkN_unfold, if_pos h0, if_pos (by omega)]
    rw [e] at hQ
    exact hQ _ _ (.inl ⟨rfl, rfl⟩) rfl
  · have e : walkN l n c way out = .ok (out ++ [c]) := by rw [walkN_unfold, if_pos h0, if_neg (by omega)]
    rw [e] at hQ
    refine hQ _ _ (.inr ⟨768, ?_, ?_⟩) rfl
    · simp [Slots.get, resL, runes]
    · simp only [LH.get, runes_take, runes_app, resL]; rfl
  refine loopR.by (α := Nat) (fun k => [(0, .c (.sl 8 (recs l))), (1, .c (.int .i32 c)), (2, .c (.sl 1 (runes way))), (3, .osl 1000003 0 out.length), (10, .osl 1000010 0 (openL l c).length), (11, .c (.int .i64 k))]) (fun _ => [(1000003, .row 1 (runes out)), (1000010, .row 1 (runes (openL l c)))]) (fun k => way.length - k)
    (fun k => k ≤ way.length ∧ (c ∈ way.drop k ↔ c ∈ way)) 0 ⟨Nat.zero_le _, by simp⟩ ?_ ?_
  · intro Z hZ
    simp only [go_sem, ↓reduceIte, Nat.reduceEqDiff, Nat.reduceMul, Nat.reduceAdd, Nat.reduceDiv, Nat.reduceSub, Nat.reduceLT, Nat.reduceLeDiff, Int.reduceLE, Int.reduceLT, Int.reduceToNat, Int.reduceEq, n49_0]
    exact ⟨by simp, hZ⟩
  intro k hk Z hZ
  unfold l49_0
  rcases Nat.lt_or_ge k way.length with hlt | hge
  · obtain ⟨p, e, hm, hd⟩ := runes_at hlt
    simp only [go_sem, ↓reduceIte, Nat.reduceEqDiff, Nat.reduceMul, Nat.reduceAdd, Nat.reduceDiv, Nat.reduceSub, Nat.reduceLT, Nat.reduceLeDiff, Int.reduceLE, Int.reduceLT, Int.reduceToNat, Int.reduceEq, n49_0, e]
    refine ⟨fun _ => ?_, fun h => by omega⟩
    repeat (refine ⟨by (first | omega | (intro h1 h2; exact ⟨h1, h2⟩) | (intro h1; omega) | (intro h1; exact h1) | trivial), ?_⟩)
    rw [succ64 hlt (by omega)]
    refine ⟨fun h1 => ?_, fun h1 => ?_⟩
    · have e : walkN l n c way out = .error 72 := by rw [walkN_unfold, if_neg h0, if_pos (by rw [← h1]; exact hm)]
      rw [e] at hQ
      exact hQ _ _ (.inl ⟨rfl, rfl⟩) rfl
    · refine ⟨by simp, hZ (k + 1) ⟨hlt, ?_⟩ (by omega)⟩
      rw [← hk.2, hd, List.mem_cons]
      exact ⟨.inr, fun h => h.resolve_left (Ne.symm h1)⟩
  have hway : ¬ c ∈ way := by rw [← hk.2, List.drop_eq_nil_of_le hge]; simp
  simp only [go_sem, ↓reduceIte, Nat.reduceEqDiff, Nat.reduceMul, Nat.reduceAdd, Nat.reduceDiv, Nat.reduceSub, Nat.reduceLT, Nat.reduceLeDiff, Int.reduceLE, Int.reduceLT, Int.reduceToNat, Int.reduceEq, n49_0]
  refine ⟨fun h => by omega, fun _ => ?_⟩
  refine ⟨fun h16 => ?_, fun h16 => ?_⟩
  · have hn0 : n = 0 := by omega
    have e : walkN l n c way out = .error 73 := by rw [walkN_unfold, if_neg h0, if_neg hway, hn0]
    rw [e] at hQ
    exact hQ _ _ (.inl ⟨rfl, rfl⟩) rfl
  obtain ⟨m, rfl⟩ : ∃ m, n = m + 1 := ⟨n - 1, by omega⟩
  have e : walkN l (m + 1) c way out = (openL l c).foldlM (fun out t => walkN l m t (way ++ [c]) out) out := by rw [walkN_unfold, if_neg h0, if_neg hway]
  rw [e] at hQ
  repeat (refine ⟨by (first | omega | (intro h1 h2; exact ⟨h1, h2⟩) | (intro h1; omega) | (intro h1; exact h1) | trivial), ?_⟩)
  clear hk hZ hge e
  have ht : List.take way.length (runes way) = runes way := runes_take way
  have hr : runes way ++ [CV.int .i32 c] = runes (way ++ [c]) := runes_app way c
  refine loopR.by (α := Nat × List Int) (fun p => [(0, .c (.sl 8 (recs l))), (3, .osl 1000003 0 p.2.length), (10, .osl 1000010 0 (openL l c).length), (12, .osl 1000012 0 (way.length + 1)), (13, .c (.int .i64 p.1))]) (fun p => [(1000003, .row 1 (runes p.2)), (1000010, .row 1 (runes (openL l c))), (1000012, .row 1 (runes (way ++ [c])))]) (fun p => (openL l c).length - p.1)
    (fun p => p.1 ≤ (openL l c).length ∧ p.2.length ≤ 32 ∧ ((openL l c).drop p.1).foldlM (fun out t => walkN l m t (way ++ [c]) out) p.2 = (openL l c).foldlM (fun out t => walkN l m t (way ++ [c]) out) out) (0, out) ⟨Nat.zero_le _, ho, rfl⟩ ?_ ?_
  · intro Z hZ
    simp only [go_sem, ↓reduceIte, Nat.reduceEqDiff, Nat.reduceMul, Nat.reduceAdd, Nat.reduceDiv, Nat.reduceSub, Nat.reduceLT, Nat.reduceLeDiff, Int.reduceLE, Int.reduceLT, Int.reduceToNat, Int.reduceEq, n49_1, ht, hr]
    exact ⟨by simp, hZ⟩
  intro p hk Z hZ
  obtain ⟨k, o⟩ := p
  obtain ⟨hk1, hk2, hk3⟩ := hk
  simp only at hk1 hk2 hk3
  unfold l49_1
  rcases Nat.lt_or_ge k (openL l c).length with hlt | hge
  · obtain ⟨t, e, hm, hd⟩ := runes_at hlt
    rw [hd, List.foldlM_cons] at hk3
    have htw : List.take (way.length + 1) (runes (way ++ [c])) = runes (way ++ [c]) := List.take_of_length_le (by simp [runes])
    simp only [go_sem, ↓reduceIte, Nat.reduceEqDiff, Nat.reduceMul, Nat.reduceAdd, Nat.reduceDiv, Nat.reduceSub, Nat.reduceLT, Nat.reduceLeDiff, Int.reduceLE, Int.reduceLT, Int.reduceToNat, Int.reduceEq, n49_1, e, htw]
    refine ⟨fun _ => ⟨by omega, ?_⟩, fun h => by omega⟩
    refine callK_i ⟨[.own 1 (runes (resL (walkN l m t (way ++ [c]) o))), .cv (.int .i64 (resE (walkN l m t (way ++ [c]) o)))], []⟩ (fun _ => ih m rfl t o (hoo t hm) hk2) ⟨by simp only [go_sem, ↓reduceIte, Nat.reduceEqDiff, Nat.reduceMul, Nat.reduceAdd, Nat.reduceDiv, Nat.reduceSub, Nat.reduceLT, Nat.reduceLeDiff, Int.reduceLE, Int.reduceLT, Int.reduceToNat, Int.reduceEq], .inr ⟨?_, by simp⟩, ⟨by simp only [go_sem, ↓reduceIte, Nat.reduceEqDiff, Nat.reduceMul, Nat.reduceAdd, Nat.reduceDiv, Nat.reduceSub, Nat.reduceLT, Nat.reduceLeDiff, Int.reduceLE, Int.reduceLT, Int.reduceToNat, Int.reduceEq], by simp, by simp, by simp⟩, ?_⟩
    · intro r hr
      simp only [List.mem_cons, List.not_mem_nil, or_false] at hr
      rcases hr with rfl | rfl
      · exact runes_scalar _
      · rfl
    cases hx : walkN l m t (way ++ [c]) o with
    | error er =>
      have hne := walkN_ne l m t _ o er hx
      rw [hx] at hk3
      rw [← hk3] at hQ
      simp only [go_sem, ↓reduceIte, Nat.reduceEqDiff, Nat.reduceMul, Nat.reduceAdd, Nat.reduceDiv, Nat.reduceSub, Nat.reduceLT, Nat.reduceLeDiff, Int.reduceLE, Int.reduceLT, Int.reduceToNat, Int.reduceEq, resL, resE]
      refine ⟨fun _ => ?_, fun h => absurd h hne⟩
      exact hQ _ _ (.inl ⟨rfl, rfl⟩) rfl
    | ok x =>
      have hl32 := walkN_len l m t _ o x hk2 hx
      rw [hx] at hk3
      simp only [go_sem, ↓reduceIte, Nat.reduceEqDiff, Nat.reduceMul, Nat.reduceAdd, Nat.reduceDiv, Nat.reduceSub, Nat.reduceLT, Nat.reduceLeDiff, Int.reduceLE, Int.reduceLT, Int.reduceToNat, Int.reduceEq, resL, resE]
      rw [succ64 hlt (by omega)]
      exact ⟨by simp, hZ (k + 1, x) ⟨hlt, hl32, hk3⟩ (by simp only; omega)⟩
  · simp only [go_sem, ↓reduceIte, Nat.reduceEqDiff, Nat.reduceMul, Nat.reduceAdd, Nat.reduceDiv, Nat.reduceSub, Nat.reduceLT, Nat.reduceLeDiff, Int.reduceLE, Int.reduceLT, Int.reduceToNat, Int.reduceEq, n49_1]
    refine ⟨fun h => by omega, fun _ => ?_⟩
    rw [List.drop_eq_nil_of_le hge] at hk3
    rw [← hk3] at hQ
    refine hQ _ _ (.inr ⟨1000003, ?_, rfl⟩) rfl
    simp [Slots.get, resL, runes, pure, Except.pure]
theorem cw49 (l : List Rec) (hl : ∀ r ∈ l, r.ok) (hn : l.length < 9223372036854775808) (hto : ∀ r ∈ l, r.to.length ≤ 35184372088832) (n : Nat) (c : Int) (way out : List Int) (hc : i32ok c) (hw : way.length + n = 16) (ho : out.length ≤ 32) (ih : ∀ m, n = m + 1 → ∀ t o, i32ok t → o.length ≤ 32 → CW Try.prog 49 [.cv (.sl 8 (recs l)), .cv (.int .i32 t), .cv (.sl 1 (runes (way ++ [c]))), .own 1 (runes o)] ⟨[.own 1 (runes (resL (walkN l m t (way ++ [c]) o))), .cv (.int .i64 (resE (walkN l m t (way ++ [c]) o)))], []⟩) : CW Try.prog 49 [.cv (.sl 8 (recs l)), .cv (.int .i32 c), .cv (.sl 1 (runes way)), .own 1 (runes out)] ⟨[.own 1 (runes (resL (walkN l n c way out))), .cv (.int .i64 (resE (walkN l n c way out)))], []⟩ :=
  top49 rfl rfl [] trivial (w49 l hl hn hto n c way out hc hw ho ih _ fun σ H h h' => retO2 rfl h h')
theorem cwWalk (l : List Rec) (hl : ∀ r ∈ l, r.ok) (hn : l.length < 9223372036854775808) (hto : ∀ r ∈ l, r.to.length ≤ 35184372088832) : ∀ (n : Nat) (c : Int) (way out : List Int), i32ok c → way.length + n = 16 → out.length ≤ 32 →
    CW Try.prog 49 [.cv (.sl 8 (recs l)), .cv (.int .i32 c), .cv (.sl 1 (runes way)), .own 1 (runes out)] ⟨[.own 1 (runes (resL (walkN l n c way out))), .cv (.int .i64 (resE (walkN l n c way out)))], []⟩ := by
  intro n
  induction n with
  | zero => intro c way out hc hw ho; exact cw49 l hl hn hto 0 c way out hc hw ho (fun m e => by cases e)
  | succ n ih =>
    intro c way out hc hw ho
    exact cw49 l hl hn hto (n + 1) c way out hc hw ho (fun m e t o ht ho' => by
      cases e
      exact ih t (way ++ [c]) o ht (by simp; omega) ho')
/-- The full decomposition. -/
def fullL (l : List Rec) (c : Int) : Except Int (List Int) := walkN l 16 c [] []
theorem w25 (l : List Rec) (hl : ∀ r ∈ l, r.ok) (hn : l.length < 9223372036854775808) (hto : ∀ r ∈ l, r.to.length ≤ 35184372088832) (c : Int) (hc : i32ok c) (Q : Ex → Slots → LH → Prop) (hQ : ∀ σ H, OwnAt 1 (runes (resL (fullL l c))) (Slots.get σ 4) H → Slots.get σ 5 = .c (.int .i64 (resE (fullL l c))) → Q .ret σ H) : rnC Try.prog b25 Q [(0, .c (.sl 8 (recs l))), (1, .c (.int .i32 c))] [] := by
  unfold b25
  simp only [go_sem, ↓reduceIte, Nat.reduceEqDiff, Nat.reduceMul, Nat.reduceAdd, Nat.reduceDiv, Nat.reduceSub, Nat.reduceLT, Nat.reduceLeDiff, Int.reduceLE, Int.reduceLT, Int.reduceToNat, Int.reduceEq]
  refine callK_i ⟨[.own 1 (runes (resL (fullL l c))), .cv (.int .i64 (resE (fullL l c)))], []⟩ (fun _ => cwWalk l hl hn hto 16 c [] [] hc (by decide) (by decide)) ⟨by simp only [go_sem, ↓reduceIte, Nat.reduceEqDiff, Nat.reduceMul, Nat.reduceAdd, Nat.reduceDiv, Nat.reduceSub, Nat.reduceLT, Nat.reduceLeDiff, Int.reduceLE, Int.reduceLT, Int.reduceToNat, Int.reduceEq], .inl rfl, ⟨by simp only [go_sem, ↓reduceIte, Nat.reduceEqDiff, Nat.reduceMul, Nat.reduceAdd, Nat.reduceDiv, Nat.reduceSub, Nat.reduceLT, Nat.reduceLeDiff, Int.reduceLE, Int.reduceLT, Int.reduceToNat, Int.reduceEq], by simp, by simp, by simp⟩, ?_⟩
  simp only [go_sem, ↓reduceIte, Nat.reduceEqDiff, Nat.reduceMul, Nat.reduceAdd, Nat.reduceDiv, Nat.reduceSub, Nat.reduceLT, Nat.reduceLeDiff, Int.reduceLE, Int.reduceLT, Int.reduceToNat, Int.reduceEq]
  refine hQ _ _ (.inr ⟨64, ?_, rfl⟩) rfl
  simp [Slots.get, runes]
theorem cw25 (l : List Rec) (hl : ∀ r ∈ l, r.ok) (hn : l.length < 9223372036854775808) (hto : ∀ r ∈ l, r.to.length ≤ 35184372088832) (c : Int) (hc : i32ok c) : CW Try.prog 25 [.cv (.sl 8 (recs l)), .cv (.int .i32 c)] ⟨[.own 1 (runes (resL (fullL l c))), .cv (.int .i64 (resE (fullL l c)))], []⟩ :=
  top25 rfl rfl [] trivial (w25 l hl hn hto c hc _ fun σ H h h' => retO2 rfl h h')
/-- A record says what is reckoned. -/
def hangulF (r : Rec) : Bool :=
  coversR r 4352 4370 || coversR r 4449 4469 || coversR r 4520 4546 || coversR r 44032 55203 ||
  (decide (r.kind = 7) && match r.to with
    | [a, b] => refL a && refV b || syl a && decide ((IntKind.i32.wrap (a - 44032)).tmod 28 = 0) && refT b
    | _ => false)
/-- What is wrong with the record at a place, for the reference. -/
def recordF (l p : List Rec) (r : Rec) : Int :=
  if ¬famK r.kind = 2 ∧ ¬famK r.kind = 3 then 0 else
  if coversR r 0 127 = true then 70 else
  if hangulF r = true then 71 else
  if famK r.kind = 2 then 0 else
  match fullL l (IntKind.i32.wrap r.lo) with
  | .error e => e
  | .ok x =>
    if fallsL l x = true then 75 else
    if r.kind = 7 ∧ (pairsL l r && !p.any (fun o => decide (o.kind = 7) && decide (o.to = r.to))) = false then 74 else 0
theorem foldlM_ok {f : List Int → Int → Except Int (List Int)} : ∀ (ts : List Int) (hf : ∀ o t x, t ∈ ts → (∀ c ∈ o, i32ok c) → f o t = .ok x → ∀ c ∈ x, i32ok c) (o x : List Int), (∀ c ∈ o, i32ok c) → ts.foldlM f o = .ok x → ∀ c ∈ x, i32ok c
  | [], hf, o, x, ho, h => by cases h; exact ho
  | t :: ts, hf, o, x, ho, h => by
    rw [List.foldlM_cons] at h
    cases hx : f o t with
    | error e => rw [hx] at h; cases h
    | ok y => rw [hx] at h; exact foldlM_ok ts (fun o t x ht => hf o t x (List.mem_cons_of_mem _ ht)) y x (hf _ _ _ List.mem_cons_self ho hx) h
theorem walkN_ok {l : List Rec} (hl : ∀ r ∈ l, r.ok) : ∀ (n : Nat) (c : Int) (way out x : List Int), i32ok c → (∀ t ∈ out, i32ok t) → walkN l n c way out = .ok x → ∀ t ∈ x, i32ok t := by
  intro n
  induction n with
  | zero =>
    intro c way out x hc ho h
    rw [walkN_unfold] at h
    split at h
    · split at h
      · cases h
      · cases h
        intro t ht
        rcases List.mem_append.1 ht with ht | ht
        · exact ho t ht
        · rw [List.mem_singleton.1 ht]; exact hc
    · split at h <;> cases h
  | succ n ih =>
    intro c way out x hc ho h
    rw [walkN_unfold] at h
    split at h
    · split at h
      · cases h
      · cases h
        intro t ht
        rcases List.mem_append.1 ht with ht | ht
        · exact ho t ht
        · rw [List.mem_singleton.1 ht]; exact hc
    · split at h
      · cases h
      · exact foldlM_ok _ (fun o t x ht ho h => ih t _ o x (openL_ok hl hc t ht) ho h) _ _ ho h
theorem w52 (l : List Rec) (i : Nat) (r : Rec) (hi : i < l.length) (hr : (recs l).getD i .undef = r.cv) (hm : r ∈ l) (h7 : ∀ r ∈ l, r.kind = 7 → r.to.length = 2) (hl : ∀ r ∈ l, r.ok) (hn : l.length < 9223372036854775808) (hto : ∀ r ∈ l, r.to.length ≤ 35184372088832) (Q : Ex → Slots → LH → Prop) (hQ : ∀ σ H, Slots.get σ 4 = .c (.int .i64 (recordF l (l.take i) r)) → Q .ret σ H) : rnC Try.prog b52 Q [(0, .c (.sl 8 (recs l))), (1, .c (.int .i64 i))] [] := by
  unfold b52
  simp only [go_sem, ↓reduceIte, Nat.reduceEqDiff, Nat.reduceMul, Nat.reduceAdd, Nat.reduceDiv, Nat.reduceSub, Nat.reduceLT, Nat.reduceLeDiff, Int.reduceLE, Int.reduceLT, Int.reduceToNat, Int.reduceEq, hr]
  repeat (refine ⟨by (first | omega | (intro h1 h2; exact ⟨h1, h2⟩) | (intro h1; omega) | (intro h1; exact h1) | trivial), ?_⟩)
  refine callK_1 _ (fun _ => cw67 _) (by simp only [go_sem, ↓reduceIte, Nat.reduceEqDiff, Nat.reduceMul, Nat.reduceAdd, Nat.reduceDiv, Nat.reduceSub, Nat.reduceLT, Nat.reduceLeDiff, Int.reduceLE, Int.reduceLT, Int.reduceToNat, Int.reduceEq]) rfl rfl ?_
  simp only [go_sem, ↓reduceIte, Nat.reduceEqDiff, Nat.reduceMul, Nat.reduceAdd, Nat.reduceDiv, Nat.reduceSub, Nat.reduceLT, Nat.reduceLeDiff, Int.reduceLE, Int.reduceLT, Int.reduceToNat, Int.reduceEq]
  repeat (refine ⟨by (first | omega | (intro h1 h2; exact ⟨h1, h2⟩) | (intro h1; omega) | (intro h1; exact h1) | trivial), ?_⟩)
  refine ⟨fun hf => ?_, fun hf => ?_⟩
  · apply hQ
    all_goals simp only [go_sem, ↓reduceIte, Nat.reduceEqDiff, Nat.reduceMul, Nat.reduceAdd, Nat.reduceDiv, Nat.reduceSub, Nat.reduceLT, Nat.reduceLeDiff, Int.reduceLE, Int.reduceLT, Int.reduceToNat, Int.reduceEq, recordF, if_pos hf]
  refine callK_1 _ (fun _ => cw74 r _ _) (by simp only [go_sem, ↓reduceIte, Nat.reduceEqDiff, Nat.reduceMul, Nat.reduceAdd, Nat.reduceDiv, Nat.reduceSub, Nat.reduceLT, Nat.reduceLeDiff, Int.reduceLE, Int.reduceLT, Int.reduceToNat, Int.reduceEq]) rfl rfl ?_
  simp only [go_sem, ↓reduceIte, Nat.reduceEqDiff, Nat.reduceMul, Nat.reduceAdd, Nat.reduceDiv, Nat.reduceSub, Nat.reduceLT, Nat.reduceLeDiff, Int.reduceLE, Int.reduceLT, Int.reduceToNat, Int.reduceEq]
  repeat (refine ⟨by (first | omega | (intro h1 h2; exact ⟨h1, h2⟩) | (intro h1; omega) | (intro h1; exact h1) | trivial), ?_⟩)
  refine ⟨fun h0 => ?_, fun h0 => ?_⟩
  · apply hQ
    all_goals simp only [go_sem, ↓reduceIte, Nat.reduceEqDiff, Nat.reduceMul, Nat.reduceAdd, Nat.reduceDiv, Nat.reduceSub, Nat.reduceLT, Nat.reduceLeDiff, Int.reduceLE, Int.reduceLT, Int.reduceToNat, Int.reduceEq, recordF, if_neg (show ¬(¬famK r.kind = 2 ∧ ¬famK r.kind = 3) by omega), if_pos h0]
  refine callK_1 _ (fun _ => cw74 r _ _) (by simp only [go_sem, ↓reduceIte, Nat.reduceEqDiff, Nat.reduceMul, Nat.reduceAdd, Nat.reduceDiv, Nat.reduceSub, Nat.reduceLT, Nat.reduceLeDiff, Int.reduceLE, Int.reduceLT, Int.reduceToNat, Int.reduceEq]) rfl rfl ?_
  simp only [go_sem, ↓reduceIte, Nat.reduceEqDiff, Nat.reduceMul, Nat.reduceAdd, Nat.reduceDiv, Nat.reduceSub, Nat.reduceLT, Nat.reduceLeDiff, Int.reduceLE, Int.reduceLT, Int.reduceToNat, Int.reduceEq]
  repeat (refine ⟨by (first | omega | (intro h1 h2; exact ⟨h1, h2⟩) | (intro h1; omega) | (intro h1; exact h1) | trivial), ?_⟩)
  refine callK_1 _ (fun _ => cw74 r _ _) (by simp only [go_sem, ↓reduceIte, Nat.reduceEqDiff, Nat.reduceMul, Nat.reduceAdd, Nat.reduceDiv, Nat.reduceSub, Nat.reduceLT, Nat.reduceLeDiff, Int.reduceLE, Int.reduceLT, Int.reduceToNat, Int.reduceEq]) rfl rfl ?_
  simp only [go_sem, ↓reduceIte, Nat.reduceEqDiff, Nat.reduceMul, Nat.reduceAdd, Nat.reduceDiv, Nat.reduceSub, Nat.reduceLT, Nat.reduceLeDiff, Int.reduceLE, Int.reduceLT, Int.reduceToNat, Int.reduceEq]
  repeat (refine ⟨by (first | omega | (intro h1 h2; exact ⟨h1, h2⟩) | (intro h1; omega) | (intro h1; exact h1) | trivial), ?_⟩)
  refine callK_1 _ (fun _ => cw74 r _ _) (by simp only [go_sem, ↓reduceIte, Nat.reduceEqDiff, Nat.reduceMul, Nat.reduceAdd, Nat.reduceDiv, Nat.reduceSub, Nat.reduceLT, Nat.reduceLeDiff, Int.reduceLE, Int.reduceLT, Int.reduceToNat, Int.reduceEq]) rfl rfl ?_
  simp only [go_sem, ↓reduceIte, Nat.reduceEqDiff, Nat.reduceMul, Nat.reduceAdd, Nat.reduceDiv, Nat.reduceSub, Nat.reduceLT, Nat.reduceLeDiff, Int.reduceLE, Int.reduceLT, Int.reduceToNat, Int.reduceEq]
  repeat (refine ⟨by (first | omega | (intro h1 h2; exact ⟨h1, h2⟩) | (intro h1; omega) | (intro h1; exact h1) | trivial), ?_⟩)
  refine callK_1 _ (fun _ => cw74 r _ _) (by simp only [go_sem, ↓reduceIte, Nat.reduceEqDiff, Nat.reduceMul, Nat.reduceAdd, Nat.reduceDiv, Nat.reduceSub, Nat.reduceLT, Nat.reduceLeDiff, Int.reduceLE, Int.reduceLT, Int.reduceToNat, Int.reduceEq]) rfl rfl ?_
  simp only [go_sem, ↓reduceIte, Nat.reduceEqDiff, Nat.reduceMul, Nat.reduceAdd, Nat.reduceDiv, Nat.reduceSub, Nat.reduceLT, Nat.reduceLeDiff, Int.reduceLE, Int.reduceLT, Int.reduceToNat, Int.reduceEq]
  repeat (refine ⟨by (first | omega | (intro h1 h2; exact ⟨h1, h2⟩) | (intro h1; omega) | (intro h1; exact h1) | trivial), ?_⟩)
  have hf' : ¬(¬famK r.kind = 2 ∧ ¬famK r.kind = 3) := by omega
  have h0' : ¬ coversR r 0 127 = true := by rw [h0]; simp
  refine ⟨fun hc => ?_, fun hc => ?_⟩
  · have hh : hangulF r = true := by unfold hangulF; grind
    apply hQ
    all_goals simp only [go_sem, ↓reduceIte, Nat.reduceEqDiff, Nat.reduceMul, Nat.reduceAdd, Nat.reduceDiv, Nat.reduceSub, Nat.reduceLT, Nat.reduceLeDiff, Int.reduceLE, Int.reduceLT, Int.reduceToNat, Int.reduceEq, recordF, if_neg hf', if_neg h0', if_pos hh]
  by_cases hk : r.kind = 7
  · obtain ⟨a, b, hab⟩ : ∃ a b, r.to = [a, b] := by
      match ho : r.to, h7 r hm hk with
      | [a, b], _ => exact ⟨a, b, rfl⟩
    have e0 : (runes r.to).getD 0 .undef = .int .i32 a := by simp [hab, runes]
    have e1 : (runes r.to).getD 1 .undef = .int .i32 b := by simp [hab, runes]
    have el : r.to.length = 2 := by simp [hab]
    simp only [go_sem, ↓reduceIte, Nat.reduceEqDiff, Nat.reduceMul, Nat.reduceAdd, Nat.reduceDiv, Nat.reduceSub, Nat.reduceLT, Nat.reduceLeDiff, Int.reduceLE, Int.reduceLT, Int.reduceToNat, Int.reduceEq, e0, e1, el, hk]
    repeat (refine ⟨by (first | omega | (intro h1 h2; exact ⟨h1, h2⟩) | (intro h1; omega) | (intro h1; exact h1) | trivial), ?_⟩)
    refine callK_1 _ (fun _ => cw75 a) (by simp only [go_sem, ↓reduceIte, Nat.reduceEqDiff, Nat.reduceMul, Nat.reduceAdd, Nat.reduceDiv, Nat.reduceSub, Nat.reduceLT, Nat.reduceLeDiff, Int.reduceLE, Int.reduceLT, Int.reduceToNat, Int.reduceEq]) rfl rfl ?_
    simp only [go_sem, ↓reduceIte, Nat.reduceEqDiff, Nat.reduceMul, Nat.reduceAdd, Nat.reduceDiv, Nat.reduceSub, Nat.reduceLT, Nat.reduceLeDiff, Int.reduceLE, Int.reduceLT, Int.reduceToNat, Int.reduceEq, e0, e1, el]
    repeat (refine ⟨by (first | omega | (intro h1 h2; exact ⟨h1, h2⟩) | (intro h1; omega) | (intro h1; exact h1) | trivial), ?_⟩)
    refine callK_1 _ (fun _ => cw76 b) (by simp only [go_sem, ↓reduceIte, Nat.reduceEqDiff, Nat.reduceMul, Nat.reduceAdd, Nat.reduceDiv, Nat.reduceSub, Nat.reduceLT, Nat.reduceLeDiff, Int.reduceLE, Int.reduceLT, Int.reduceToNat, Int.reduceEq]) rfl rfl ?_
    simp only [go_sem, ↓reduceIte, Nat.reduceEqDiff, Nat.reduceMul, Nat.reduceAdd, Nat.reduceDiv, Nat.reduceSub, Nat.reduceLT, Nat.reduceLeDiff, Int.reduceLE, Int.reduceLT, Int.reduceToNat, Int.reduceEq, e0, e1, el]
    repeat (refine ⟨by (first | omega | (intro h1 h2; exact ⟨h1, h2⟩) | (intro h1; omega) | (intro h1; exact h1) | trivial), ?_⟩)
    refine callK_1 _ (fun _ => cw43 a) (by simp only [go_sem, ↓reduceIte, Nat.reduceEqDiff, Nat.reduceMul, Nat.reduceAdd, Nat.reduceDiv, Nat.reduceSub, Nat.reduceLT, Nat.reduceLeDiff, Int.reduceLE, Int.reduceLT, Int.reduceToNat, Int.reduceEq]) rfl rfl ?_
    simp only [go_sem, ↓reduceIte, Nat.reduceEqDiff, Nat.reduceMul, Nat.reduceAdd, Nat.reduceDiv, Nat.reduceSub, Nat.reduceLT, Nat.reduceLeDiff, Int.reduceLE, Int.reduceLT, Int.reduceToNat, Int.reduceEq, e0, e1, el]
    repeat (refine ⟨by (first | omega | (intro h1 h2; exact ⟨h1, h2⟩) | (intro h1; omega) | (intro h1; exact h1) | trivial), ?_⟩)
    refine callK_1 _ (fun _ => cw77 b) (by simp only [go_sem, ↓reduceIte, Nat.reduceEqDiff, Nat.reduceMul, Nat.reduceAdd, Nat.reduceDiv, Nat.reduceSub, Nat.reduceLT, Nat.reduceLeDiff, Int.reduceLE, Int.reduceLT, Int.reduceToNat, Int.reduceEq]) rfl rfl ?_
    simp only [go_sem, ↓reduceIte, Nat.reduceEqDiff, Nat.reduceMul, Nat.reduceAdd, Nat.reduceDiv, Nat.reduceSub, Nat.reduceLT, Nat.reduceLeDiff, Int.reduceLE, Int.reduceLT, Int.reduceToNat, Int.reduceEq, e0, e1, el]
    repeat (refine ⟨by (first | omega | (intro h1 h2; exact ⟨h1, h2⟩) | (intro h1; omega) | (intro h1; exact h1) | trivial), ?_⟩)
    refine ⟨fun hh => ?_, fun hh => ?_⟩
    · have hg : hangulF r = true := by unfold hangulF; rw [hab]; grind
      apply hQ
      all_goals simp only [go_sem, ↓reduceIte, Nat.reduceEqDiff, Nat.reduceMul, Nat.reduceAdd, Nat.reduceDiv, Nat.reduceSub, Nat.reduceLT, Nat.reduceLeDiff, Int.reduceLE, Int.reduceLT, Int.reduceToNat, Int.reduceEq, recordF, if_neg hf', if_neg h0', if_pos hg]
    have hg : ¬hangulF r = true := by unfold hangulF; rw [hab]; grind
    refine ⟨fun h2 => ?_, fun h2 => ?_⟩
    · apply hQ
      all_goals simp only [go_sem, ↓reduceIte, Nat.reduceEqDiff, Nat.reduceMul, Nat.reduceAdd, Nat.reduceDiv, Nat.reduceSub, Nat.reduceLT, Nat.reduceLeDiff, Int.reduceLE, Int.reduceLT, Int.reduceToNat, Int.reduceEq, recordF, if_neg hf', if_neg h0', if_neg hg, if_pos h2]
    refine callK_i ⟨[.own 1 (runes (resL (fullL l (IntKind.i32.wrap r.lo)))), .cv (.int .i64 (resE (fullL l (IntKind.i32.wrap r.lo))))], []⟩ (fun _ => cw25 l hl hn hto _ (i32wrap_ok _)) ⟨by simp only [go_sem, ↓reduceIte, Nat.reduceEqDiff, Nat.reduceMul, Nat.reduceAdd, Nat.reduceDiv, Nat.reduceSub, Nat.reduceLT, Nat.reduceLeDiff, Int.reduceLE, Int.reduceLT, Int.reduceToNat, Int.reduceEq], .inl rfl, ⟨by simp only [go_sem, ↓reduceIte, Nat.reduceEqDiff, Nat.reduceMul, Nat.reduceAdd, Nat.reduceDiv, Nat.reduceSub, Nat.reduceLT, Nat.reduceLeDiff, Int.reduceLE, Int.reduceLT, Int.reduceToNat, Int.reduceEq], by simp, by simp, by simp⟩, ?_⟩
    cases hx : fullL l (IntKind.i32.wrap r.lo) with
    | error e =>
      have he : e ≠ 0 := walkN_ne _ _ _ _ _ _ hx
      simp only [go_sem, ↓reduceIte, Nat.reduceEqDiff, Nat.reduceMul, Nat.reduceAdd, Nat.reduceDiv, Nat.reduceSub, Nat.reduceLT, Nat.reduceLeDiff, Int.reduceLE, Int.reduceLT, Int.reduceToNat, Int.reduceEq, resL, resE]
      refine ⟨fun _ => hQ _ _ ?_, fun h => absurd h he⟩
      simp only [go_sem, ↓reduceIte, Nat.reduceEqDiff, Nat.reduceMul, Nat.reduceAdd, Nat.reduceDiv, Nat.reduceSub, Nat.reduceLT, Nat.reduceLeDiff, Int.reduceLE, Int.reduceLT, Int.reduceToNat, Int.reduceEq, recordF, if_neg hf', if_neg h0', if_neg hg, if_neg h2, hx]
    | ok x =>
      have hxl := walkN_len l 16 _ _ _ x (by decide) hx
      have hxt : List.take x.length (runes x) = runes x := runes_take x
      simp only [go_sem, ↓reduceIte, Nat.reduceEqDiff, Nat.reduceMul, Nat.reduceAdd, Nat.reduceDiv, Nat.reduceSub, Nat.reduceLT, Nat.reduceLeDiff, Int.reduceLE, Int.reduceLT, Int.reduceToNat, Int.reduceEq, resL, resE, hxt]
      refine callK_V _ (fun _ => cw78 l x hl hn (walkN_ok hl 16 _ _ _ x (i32wrap_ok _) (by simp) hx) (by omega)) (by simp only [go_sem, ↓reduceIte, Nat.reduceEqDiff, Nat.reduceMul, Nat.reduceAdd, Nat.reduceDiv, Nat.reduceSub, Nat.reduceLT, Nat.reduceLeDiff, Int.reduceLE, Int.reduceLT, Int.reduceToNat, Int.reduceEq]) rfl (by simp only [go_sem, ↓reduceIte, Nat.reduceEqDiff, Nat.reduceMul, Nat.reduceAdd, Nat.reduceDiv, Nat.reduceSub, Nat.reduceLT, Nat.reduceLeDiff, Int.reduceLE, Int.reduceLT, Int.reduceToNat, Int.reduceEq]) rfl rfl ?_
      simp only [go_sem, ↓reduceIte, Nat.reduceEqDiff, Nat.reduceMul, Nat.reduceAdd, Nat.reduceDiv, Nat.reduceSub, Nat.reduceLT, Nat.reduceLeDiff, Int.reduceLE, Int.reduceLT, Int.reduceToNat, Int.reduceEq, e0, e1, el]
      repeat (refine ⟨by (first | omega | (intro h1 h2; exact ⟨h1, h2⟩) | (intro h1; omega) | (intro h1; exact h1) | trivial), ?_⟩)
      refine ⟨fun h3 => ?_, fun h3 => ?_⟩
      · apply hQ
        all_goals simp only [go_sem, ↓reduceIte, Nat.reduceEqDiff, Nat.reduceMul, Nat.reduceAdd, Nat.reduceDiv, Nat.reduceSub, Nat.reduceLT, Nat.reduceLeDiff, Int.reduceLE, Int.reduceLT, Int.reduceToNat, Int.reduceEq, recordF, if_neg hf', if_neg h0', if_neg hg, if_neg h2, hx, if_pos h3]
      refine callK_1 _ (fun _ => cw79 l i r a b hi hr hm hab h7 hl hn hto) (by simp only [go_sem, ↓reduceIte, Nat.reduceEqDiff, Nat.reduceMul, Nat.reduceAdd, Nat.reduceDiv, Nat.reduceSub, Nat.reduceLT, Nat.reduceLeDiff, Int.reduceLE, Int.reduceLT, Int.reduceToNat, Int.reduceEq]) rfl rfl ?_
      simp only [go_sem, ↓reduceIte, Nat.reduceEqDiff, Nat.reduceMul, Nat.reduceAdd, Nat.reduceDiv, Nat.reduceSub, Nat.reduceLT, Nat.reduceLeDiff, Int.reduceLE, Int.reduceLT, Int.reduceToNat, Int.reduceEq]
      repeat (refine ⟨by (first | omega | (intro h1 h2; exact ⟨h1, h2⟩) | (intro h1; omega) | (intro h1; exact h1) | trivial), ?_⟩)
      refine ⟨fun h4 => ?_, fun h4 => ?_⟩
      · apply hQ
        all_goals simp only [go_sem, ↓reduceIte, Nat.reduceEqDiff, Nat.reduceMul, Nat.reduceAdd, Nat.reduceDiv, Nat.reduceSub, Nat.reduceLT, Nat.reduceLeDiff, Int.reduceLE, Int.reduceLT, Int.reduceToNat, Int.reduceEq, recordF, if_neg hf', if_neg h0', if_neg hg, if_neg h2, hx]
        rw [if_neg (by rw [h3]; simp), if_pos (by first | exact h4 | exact ⟨hk, h4⟩ | exact h4.elim | exact absurd h4.1 hk)]
      · apply hQ
        all_goals simp only [go_sem, ↓reduceIte, Nat.reduceEqDiff, Nat.reduceMul, Nat.reduceAdd, Nat.reduceDiv, Nat.reduceSub, Nat.reduceLT, Nat.reduceLeDiff, Int.reduceLE, Int.reduceLT, Int.reduceToNat, Int.reduceEq, recordF, if_neg hf', if_neg h0', if_neg hg, if_neg h2, hx]
        rw [if_neg (by rw [h3]; simp), if_neg (by grind)]
  · have hk' : (r.kind == 7) = false := by simpa using hk
    rcases runes_cases r.to 0 with f0 | ⟨p, f0⟩ <;> rcases runes_cases r.to 1 with f1 | ⟨q, f1⟩ <;> simp only [go_sem, ↓reduceIte, Nat.reduceEqDiff, Nat.reduceMul, Nat.reduceAdd, Nat.reduceDiv, Nat.reduceSub, Nat.reduceLT, Nat.reduceLeDiff, Int.reduceLE, Int.reduceLT, Int.reduceToNat, Int.reduceEq, hk', hk, f0, f1]
    all_goals
      repeat (refine ⟨by (first | omega | (intro h1 h2; exact ⟨h1, h2⟩) | (intro h1; omega) | (intro h1; exact h1) | trivial), ?_⟩)
      refine callK_1 (.bool false) (fun h => absurd h (by simp [hk])) (by simp only [go_sem, ↓reduceIte, Nat.reduceEqDiff, Nat.reduceMul, Nat.reduceAdd, Nat.reduceDiv, Nat.reduceSub, Nat.reduceLT, Nat.reduceLeDiff, Int.reduceLE, Int.reduceLT, Int.reduceToNat, Int.reduceEq]) rfl rfl ?_
      simp only [go_sem, ↓reduceIte, Nat.reduceEqDiff, Nat.reduceMul, Nat.reduceAdd, Nat.reduceDiv, Nat.reduceSub, Nat.reduceLT, Nat.reduceLeDiff, Int.reduceLE, Int.reduceLT, Int.reduceToNat, Int.reduceEq, f0, f1]
      repeat (refine ⟨by (first | omega | (intro h1 h2; exact ⟨h1, h2⟩) | (intro h1; omega) | (intro h1; exact h1) | trivial), ?_⟩)
      refine callK_1 (.bool false) (fun h => absurd h (by simp [hk])) (by simp only [go_sem, ↓reduceIte, Nat.reduceEqDiff, Nat.reduceMul, Nat.reduceAdd, Nat.reduceDiv, Nat.reduceSub, Nat.reduceLT, Nat.reduceLeDiff, Int.reduceLE, Int.reduceLT, Int.reduceToNat, Int.reduceEq]) rfl rfl ?_
      simp only [go_sem, ↓reduceIte, Nat.reduceEqDiff, Nat.reduceMul, Nat.reduceAdd, Nat.reduceDiv, Nat.reduceSub, Nat.reduceLT, Nat.reduceLeDiff, Int.reduceLE, Int.reduceLT, Int.reduceToNat, Int.reduceEq, f0, f1]
      repeat (refine ⟨by (first | omega | (intro h1 h2; exact ⟨h1, h2⟩) | (intro h1; omega) | (intro h1; exact h1) | trivial), ?_⟩)
      refine callK_1 (.bool false) (fun h => absurd h (by simp [hk])) (by simp only [go_sem, ↓reduceIte, Nat.reduceEqDiff, Nat.reduceMul, Nat.reduceAdd, Nat.reduceDiv, Nat.reduceSub, Nat.reduceLT, Nat.reduceLeDiff, Int.reduceLE, Int.reduceLT, Int.reduceToNat, Int.reduceEq]) rfl rfl ?_
      simp only [go_sem, ↓reduceIte, Nat.reduceEqDiff, Nat.reduceMul, Nat.reduceAdd, Nat.reduceDiv, Nat.reduceSub, Nat.reduceLT, Nat.reduceLeDiff, Int.reduceLE, Int.reduceLT, Int.reduceToNat, Int.reduceEq, f0, f1]
      repeat (refine ⟨by (first | omega | (intro h1 h2; exact ⟨h1, h2⟩) | (intro h1; omega) | (intro h1; exact h1) | trivial), ?_⟩)
      refine callK_1 (.bool false) (fun h => absurd h (by simp [hk])) (by simp only [go_sem, ↓reduceIte, Nat.reduceEqDiff, Nat.reduceMul, Nat.reduceAdd, Nat.reduceDiv, Nat.reduceSub, Nat.reduceLT, Nat.reduceLeDiff, Int.reduceLE, Int.reduceLT, Int.reduceToNat, Int.reduceEq]) rfl rfl ?_
      simp only [go_sem, ↓reduceIte, Nat.reduceEqDiff, Nat.reduceMul, Nat.reduceAdd, Nat.reduceDiv, Nat.reduceSub, Nat.reduceLT, Nat.reduceLeDiff, Int.reduceLE, Int.reduceLT, Int.reduceToNat, Int.reduceEq, f0, f1]
      repeat (refine ⟨by (first | omega | (intro h1 h2; exact ⟨h1, h2⟩) | (intro h1; omega) | (intro h1; exact h1) | trivial), ?_⟩)
      have hg : ¬hangulF r = true := by
        unfold hangulF
        rw [show decide (r.kind = 7) = false by simpa using hk, hc.1.1.1, hc.1.1.2, hc.1.2, hc.2]
        simp
      refine ⟨fun h2 => ?_, fun h2 => ?_⟩
      · apply hQ
        all_goals simp only [go_sem, ↓reduceIte, Nat.reduceEqDiff, Nat.reduceMul, Nat.reduceAdd, Nat.reduceDiv, Nat.reduceSub, Nat.reduceLT, Nat.reduceLeDiff, Int.reduceLE, Int.reduceLT, Int.reduceToNat, Int.reduceEq, recordF, if_neg hf', if_neg h0', if_neg hg, if_pos h2]
      refine callK_i ⟨[.own 1 (runes (resL (fullL l (IntKind.i32.wrap r.lo)))), .cv (.int .i64 (resE (fullL l (IntKind.i32.wrap r.lo))))], []⟩ (fun _ => cw25 l hl hn hto _ (i32wrap_ok _)) ⟨by simp only [go_sem, ↓reduceIte, Nat.reduceEqDiff, Nat.reduceMul, Nat.reduceAdd, Nat.reduceDiv, Nat.reduceSub, Nat.reduceLT, Nat.reduceLeDiff, Int.reduceLE, Int.reduceLT, Int.reduceToNat, Int.reduceEq], .inl rfl, ⟨by simp only [go_sem, ↓reduceIte, Nat.reduceEqDiff, Nat.reduceMul, Nat.reduceAdd, Nat.reduceDiv, Nat.reduceSub, Nat.reduceLT, Nat.reduceLeDiff, Int.reduceLE, Int.reduceLT, Int.reduceToNat, Int.reduceEq], by simp, by simp, by simp⟩, ?_⟩
      cases hx : fullL l (IntKind.i32.wrap r.lo) with
      | error e =>
        have he : e ≠ 0 := walkN_ne _ _ _ _ _ _ hx
        simp only [go_sem, ↓reduceIte, Nat.reduceEqDiff, Nat.reduceMul, Nat.reduceAdd, Nat.reduceDiv, Nat.reduceSub, Nat.reduceLT, Nat.reduceLeDiff, Int.reduceLE, Int.reduceLT, Int.reduceToNat, Int.reduceEq, resL, resE]
        refine ⟨fun _ => hQ _ _ ?_, fun h => absurd h he⟩
        simp only [go_sem, ↓reduceIte, Nat.reduceEqDiff, Nat.reduceMul, Nat.reduceAdd, Nat.reduceDiv, Nat.reduceSub, Nat.reduceLT, Nat.reduceLeDiff, Int.reduceLE, Int.reduceLT, Int.reduceToNat, Int.reduceEq, recordF, if_neg hf', if_neg h0', if_neg hg, if_neg h2, hx]
      | ok x =>
        have hxl := walkN_len l 16 _ _ _ x (by decide) hx
        have hxt : List.take x.length (runes x) = runes x := runes_take x
        simp only [go_sem, ↓reduceIte, Nat.reduceEqDiff, Nat.reduceMul, Nat.reduceAdd, Nat.reduceDiv, Nat.reduceSub, Nat.reduceLT, Nat.reduceLeDiff, Int.reduceLE, Int.reduceLT, Int.reduceToNat, Int.reduceEq, resL, resE, hxt]
        refine callK_V _ (fun _ => cw78 l x hl hn (walkN_ok hl 16 _ _ _ x (i32wrap_ok _) (by simp) hx) (by omega)) (by simp only [go_sem, ↓reduceIte, Nat.reduceEqDiff, Nat.reduceMul, Nat.reduceAdd, Nat.reduceDiv, Nat.reduceSub, Nat.reduceLT, Nat.reduceLeDiff, Int.reduceLE, Int.reduceLT, Int.reduceToNat, Int.reduceEq]) rfl (by simp only [go_sem, ↓reduceIte, Nat.reduceEqDiff, Nat.reduceMul, Nat.reduceAdd, Nat.reduceDiv, Nat.reduceSub, Nat.reduceLT, Nat.reduceLeDiff, Int.reduceLE, Int.reduceLT, Int.reduceToNat, Int.reduceEq]) rfl rfl ?_
        simp only [go_sem, ↓reduceIte, Nat.reduceEqDiff, Nat.reduceMul, Nat.reduceAdd, Nat.reduceDiv, Nat.reduceSub, Nat.reduceLT, Nat.reduceLeDiff, Int.reduceLE, Int.reduceLT, Int.reduceToNat, Int.reduceEq, f0, f1]
        repeat (refine ⟨by (first | omega | (intro h1 h2; exact ⟨h1, h2⟩) | (intro h1; omega) | (intro h1; exact h1) | trivial), ?_⟩)
        refine ⟨fun h3 => ?_, fun h3 => ?_⟩
        · apply hQ
          all_goals simp only [go_sem, ↓reduceIte, Nat.reduceEqDiff, Nat.reduceMul, Nat.reduceAdd, Nat.reduceDiv, Nat.reduceSub, Nat.reduceLT, Nat.reduceLeDiff, Int.reduceLE, Int.reduceLT, Int.reduceToNat, Int.reduceEq, recordF, if_neg hf', if_neg h0', if_neg hg, if_neg h2, hx, if_pos h3]
        refine callK_1 (.bool false) (fun h => absurd h (by simp [hk])) (by simp only [go_sem, ↓reduceIte, Nat.reduceEqDiff, Nat.reduceMul, Nat.reduceAdd, Nat.reduceDiv, Nat.reduceSub, Nat.reduceLT, Nat.reduceLeDiff, Int.reduceLE, Int.reduceLT, Int.reduceToNat, Int.reduceEq]) rfl rfl ?_
        simp only [go_sem, ↓reduceIte, Nat.reduceEqDiff, Nat.reduceMul, Nat.reduceAdd, Nat.reduceDiv, Nat.reduceSub, Nat.reduceLT, Nat.reduceLeDiff, Int.reduceLE, Int.reduceLT, Int.reduceToNat, Int.reduceEq]
        repeat (refine ⟨by (first | omega | (intro h1 h2; exact ⟨h1, h2⟩) | (intro h1; omega) | (intro h1; exact h1) | trivial), ?_⟩)
        refine fun h4 => ?_
        · apply hQ
          all_goals simp only [go_sem, ↓reduceIte, Nat.reduceEqDiff, Nat.reduceMul, Nat.reduceAdd, Nat.reduceDiv, Nat.reduceSub, Nat.reduceLT, Nat.reduceLeDiff, Int.reduceLE, Int.reduceLT, Int.reduceToNat, Int.reduceEq, recordF, if_neg hf', if_neg h0', if_neg hg, if_neg h2, hx]
          rw [if_neg (by rw [h3]; simp), if_neg (fun h5 => hk h5.1)]
theorem cw52 (l : List Rec) (i : Nat) (r : Rec) (hi : i < l.length) (hr : (recs l).getD i .undef = r.cv) (hm : r ∈ l) (h7 : ∀ r ∈ l, r.kind = 7 → r.to.length = 2) (hl : ∀ r ∈ l, r.ok) (hn : l.length < 9223372036854775808) (hto : ∀ r ∈ l, r.to.length ≤ 35184372088832) : CW Try.prog 52 [.cv (.sl 8 (recs l)), .cv (.int .i64 i)] ⟨[.cv (.int .i64 (recordF l (l.take i) r))], []⟩ :=
  top52 rfl rfl [] trivial (w52 l i r hi hr hm h7 hl hn hto _ fun σ H h => ret1 rfl h)
end Go.Proofs.Ytcpdnpaedkcebaa.V
