/- Contracts: a record's fields, and whether it is right. -/
import Derived.Test.YtcpdnpaedkcebaaXa
import Derived.Test.YtcpdnpaedkcebaaWc
namespace Go.Proofs.Ytcpdnpaedkcebaa.V
open Go Go.RowKit
set_option linter.unusedVariables false
set_option linter.unusedSimpArgs false
set_option maxRecDepth 100000
/- endonym/table.fits -/
def b80 : IC := (.seq (.reg [⟨(some 1), 1, none, .box (.t 0)⟩,
  ⟨(some 2), 0, none, .mv (.c (.bool false))⟩]) (.seq (.reg [⟨(some 4), 0, none, .bld [(.bool false), (.bool false), (.bool false), (.bool false)] [(0, (.c (.bool true))), (1, (.c (.bool true))), (2, (.c (.bool true))), (3, (.c (.bool true)))]⟩,
  ⟨(some 3), 2, none, .alloc [(.bool false), (.bool false), (.bool false), (.bool false)]⟩,
  ⟨none, 0, none, .st (.t 3) (.t 4) (some 4)⟩]) (.seq (.seq (.reg [⟨(some 5), 0, none, .fa (.t 1) 0⟩,
  ⟨(some 6), 0, none, .ld (.t 5) none⟩]) (.block 0 (.seq (.reg [⟨(some 8), 0, none, .bin .eql (.t 6) (.c (.int .i64 3))⟩,
  ⟨(some 7), 0, none, .mv (.t 8)⟩]) (.cond (.t 7) (.seq (.reg [⟨(some 9), 0, none, .fa (.t 3) 1⟩,
  ⟨none, 0, none, .st (.t 9) (.c (.bool false)) none⟩]) (.seq (.reg [⟨(some 10), 0, none, .ld (.t 3) (some 4)⟩,
  ⟨(some 11), 0, none, .ld (.t 1) (some 8)⟩,
  ⟨(some 12), 3, none, .call (.c (.fn 117)) [((.t 10), .plain), ((.t 11), .plain)]⟩,
  ⟨(some 13), 0, none, .mv (.t 12)⟩,
  ⟨(some 14), 0, (some (13, true)), .ld (.t 1) (some 8)⟩,
  ⟨(some 15), 13, (some (13, true)), .call (.c (.fn 118)) [((.t 14), .plain), ((.c (.int .i64 1)), .plain), ((.c (.int .i64 24)), .plain)]⟩,
  ⟨(some 16), 0, none, .pick (.t 13) (.t 15) (.c (.bool false))⟩,
  ⟨(some 2), 0, none, .mv (.t 16)⟩]) .ret)) (.seq (.reg [⟨(some 18), 0, none, .bin .eql (.t 6) (.c (.int .i64 4))⟩,
  ⟨(some 17), 0, none, .mv (.t 18)⟩]) (.cond (.t 17) (.seq (.reg [⟨(some 19), 0, none, .fa (.t 3) 0⟩,
  ⟨none, 0, none, .st (.t 19) (.c (.bool false)) none⟩,
  ⟨(some 20), 0, none, .fa (.t 3) 1⟩,
  ⟨none, 0, none, .st (.t 20) (.c (.bool false)) none⟩]) (.seq (.reg [⟨(some 21), 0, none, .ld (.t 3) (some 4)⟩,
  ⟨(some 22), 0, none, .ld (.t 1) (some 8)⟩,
  ⟨(some 23), 23, none, .call (.c (.fn 117)) [((.t 21), .plain), ((.t 22), .plain)]⟩,
  ⟨(some 24), 0, none, .mv (.t 23)⟩,
  ⟨(some 25), 0, (some (24, true)), .ld (.t 1) (some 8)⟩,
  ⟨(some 26), 33, (some (24, true)), .call (.c (.fn 119)) [((.t 25), .plain)]⟩,
  ⟨(some 27), 0, none, .pick (.t 24) (.t 26) (.c (.bool false))⟩,
  ⟨(some 2), 0, none, .mv (.t 27)⟩]) .ret)) (.seq (.reg [⟨(some 29), 0, none, .bin .eql (.t 6) (.c (.int .i64 5))⟩,
  ⟨(some 28), 0, none, .mv (.t 29)⟩]) (.cond (.t 28) (.seq (.reg [⟨(some 30), 0, none, .fa (.t 3) 1⟩,
  ⟨none, 0, none, .st (.t 30) (.c (.bool false)) none⟩]) (.seq (.reg [⟨(some 31), 0, none, .ld (.t 3) (some 4)⟩,
  ⟨(some 32), 0, none, .ld (.t 1) (some 8)⟩,
  ⟨(some 33), 43, none, .call (.c (.fn 117)) [((.t 31), .plain), ((.t 32), .plain)]⟩,
  ⟨(some 34), 0, none, .mv (.t 33)⟩,
  ⟨(some 35), 0, (some (34, true)), .ld (.t 1) (some 8)⟩,
  ⟨(some 36), 53, (some (34, true)), .call (.c (.fn 120)) [((.t 35), .plain)]⟩,
  ⟨(some 37), 0, none, .pick (.t 34) (.t 36) (.c (.bool false))⟩,
  ⟨(some 38), 0, none, .mv (.t 37)⟩,
  ⟨(some 39), 0, (some (38, true)), .ld (.t 1) (some 8)⟩,
  ⟨(some 40), 63, (some (38, true)), .call (.c (.fn 118)) [((.t 39), .plain), ((.c (.int .i64 0)), .plain), ((.c (.int .i64 24)), .plain)]⟩,
  ⟨(some 41), 0, none, .pick (.t 38) (.t 40) (.c (.bool false))⟩,
  ⟨(some 2), 0, none, .mv (.t 41)⟩]) .ret)) (.seq (.reg [⟨(some 43), 0, none, .bin .eql (.t 6) (.c (.int .i64 6))⟩,
  ⟨(some 42), 0, none, .mv (.t 43)⟩]) (.cond (.t 42) (.seq (.reg [⟨(some 44), 0, none, .fa (.t 3) 0⟩,
  ⟨none, 0, none, .st (.t 44) (.c (.bool false)) none⟩]) (.seq (.reg [⟨(some 45), 0, none, .ld (.t 3) (some 4)⟩,
  ⟨(some 46), 0, none, .ld (.t 1) (some 8)⟩,
  ⟨(some 47), 73, none, .call (.c (.fn 117)) [((.t 45), .plain), ((.t 46), .plain)]⟩,
  ⟨(some 48), 0, none, .mv (.t 47)⟩,
  ⟨(some 49), 0, (some (48, true)), .ld (.t 1) (some 8)⟩,
  ⟨(some 50), 83, (some (48, true)), .call (.c (.fn 121)) [((.t 49), .plain), ((.c (.int .i64 1)), .plain), ((.c (.int .i64 254)), .plain)]⟩,
  ⟨(some 51), 0, none, .pick (.t 48) (.t 50) (.c (.bool false))⟩,
  ⟨(some 2), 0, none, .mv (.t 51)⟩]) .ret)) (.seq (.reg [⟨(some 53), 0, none, .bin .eql (.t 6) (.c (.int .i64 7))⟩,
  ⟨(some 52), 0, none, .mv (.t 53)⟩]) (.cond (.t 52) (.seq (.reg [⟨(some 54), 0, none, .fa (.t 3) 1⟩,
  ⟨none, 0, none, .st (.t 54) (.c (.bool false)) none⟩]) (.seq (.reg [⟨(some 55), 0, none, .ld (.t 3) (some 4)⟩,
  ⟨(some 56), 0, none, .ld (.t 1) (some 8)⟩,
  ⟨(some 57), 93, none, .call (.c (.fn 117)) [((.t 55), .plain), ((.t 56), .plain)]⟩,
  ⟨(some 58), 0, none, .mv (.t 57)⟩,
  ⟨(some 59), 0, (some (58, true)), .ld (.t 1) (some 8)⟩,
  ⟨(some 60), 103, (some (58, true)), .call (.c (.fn 120)) [((.t 59), .plain)]⟩,
  ⟨(some 61), 0, none, .pick (.t 58) (.t 60) (.c (.bool false))⟩,
  ⟨(some 62), 0, none, .mv (.t 61)⟩,
  ⟨(some 63), 0, (some (62, true)), .ld (.t 1) (some 8)⟩,
  ⟨(some 64), 113, (some (62, true)), .call (.c (.fn 118)) [((.t 63), .plain), ((.c (.int .i64 2)), .plain), ((.c (.int .i64 2)), .plain)]⟩,
  ⟨(some 65), 0, none, .pick (.t 62) (.t 64) (.c (.bool false))⟩,
  ⟨(some 2), 0, none, .mv (.t 65)⟩]) .ret)) (.seq (.reg [⟨(some 67), 0, none, .bin .eql (.t 6) (.c (.int .i64 8))⟩,
  ⟨(some 66), 0, none, .mv (.t 67)⟩]) (.cond (.t 66) (.seq (.reg [⟨(some 68), 0, none, .fa (.t 3) 1⟩,
  ⟨none, 0, none, .st (.t 68) (.c (.bool false)) none⟩]) (.seq (.reg [⟨(some 69), 0, none, .ld (.t 3) (some 4)⟩,
  ⟨(some 70), 0, none, .ld (.t 1) (some 8)⟩,
  ⟨(some 71), 123, none, .call (.c (.fn 117)) [((.t 69), .plain), ((.t 70), .plain)]⟩,
  ⟨(some 72), 0, none, .mv (.t 71)⟩,
  ⟨(some 73), 0, (some (72, true)), .ld (.t 1) (some 8)⟩,
  ⟨(some 74), 133, (some (72, true)), .call (.c (.fn 120)) [((.t 73), .plain)]⟩,
  ⟨(some 75), 0, none, .pick (.t 72) (.t 74) (.c (.bool false))⟩,
  ⟨(some 76), 0, none, .mv (.t 75)⟩,
  ⟨(some 77), 0, (some (76, true)), .ld (.t 1) (some 8)⟩,
  ⟨(some 78), 143, (some (76, true)), .call (.c (.fn 118)) [((.t 77), .plain), ((.c (.int .i64 1)), .plain), ((.c (.int .i64 2)), .plain)]⟩,
  ⟨(some 79), 0, none, .pick (.t 76) (.t 78) (.c (.bool false))⟩,
  ⟨(some 2), 0, none, .mv (.t 79)⟩]) .ret)) (.seq (.reg [⟨(some 81), 0, none, .bin .eql (.t 6) (.c (.int .i64 9))⟩,
  ⟨(some 80), 0, none, .mv (.t 81)⟩]) (.cond (.t 80) (.seq (.reg [⟨(some 82), 0, none, .fa (.t 3) 0⟩,
  ⟨none, 0, none, .st (.t 82) (.c (.bool false)) none⟩]) (.seq (.reg [⟨(some 83), 0, none, .ld (.t 3) (some 4)⟩,
  ⟨(some 84), 0, none, .ld (.t 1) (some 8)⟩,
  ⟨(some 85), 153, none, .call (.c (.fn 117)) [((.t 83), .plain), ((.t 84), .plain)]⟩,
  ⟨(some 86), 0, none, .mv (.t 85)⟩,
  ⟨(some 87), 0, (some (86, true)), .ld (.t 1) (some 8)⟩,
  ⟨(some 88), 163, (some (86, true)), .call (.c (.fn 121)) [((.t 87), .plain), ((.c (.int .i64 0)), .plain), ((.c (.int .i64 10)), .plain)]⟩,
  ⟨(some 89), 0, none, .pick (.t 86) (.t 88) (.c (.bool false))⟩,
  ⟨(some 2), 0, none, .mv (.t 89)⟩]) .ret)) (.seq (.reg [⟨(some 91), 0, none, .bin .eql (.t 6) (.c (.int .i64 10))⟩,
  ⟨(some 90), 0, none, .mv (.t 91)⟩]) (.cond (.t 90) (.seq (.reg [⟨(some 92), 0, none, .fa (.t 3) 0⟩,
  ⟨none, 0, none, .st (.t 92) (.c (.bool false)) none⟩]) (.seq (.reg [⟨(some 93), 0, none, .ld (.t 3) (some 4)⟩,
  ⟨(some 94), 0, none, .ld (.t 1) (some 8)⟩,
  ⟨(some 95), 173, none, .call (.c (.fn 117)) [((.t 93), .plain), ((.t 94), .plain)]⟩,
  ⟨(some 96), 0, none, .mv (.t 95)⟩,
  ⟨(some 97), 0, (some (96, true)), .ld (.t 1) (some 8)⟩,
  ⟨(some 98), 183, (some (96, true)), .call (.c (.fn 121)) [((.t 97), .plain), ((.c (.int .i64 0)), .plain), ((.c (.int .i64 5)), .plain)]⟩,
  ⟨(some 99), 0, none, .pick (.t 96) (.t 98) (.c (.bool false))⟩,
  ⟨(some 2), 0, none, .mv (.t 99)⟩]) .ret)) (.seq (.reg [⟨(some 101), 0, none, .bin .eql (.t 6) (.c (.int .i64 12))⟩,
  ⟨(some 100), 0, none, .mv (.t 101)⟩]) (.cond (.t 100) (.seq (.reg [⟨(some 102), 0, none, .fa (.t 3) 2⟩,
  ⟨none, 0, none, .st (.t 102) (.c (.bool false)) none⟩]) (.seq (.reg [⟨(some 103), 0, none, .ld (.t 3) (some 4)⟩,
  ⟨(some 104), 0, none, .ld (.t 1) (some 8)⟩,
  ⟨(some 105), 193, none, .call (.c (.fn 117)) [((.t 103), .plain), ((.t 104), .plain)]⟩,
  ⟨(some 106), 0, none, .mv (.t 105)⟩,
  ⟨(some 107), 0, (some (106, true)), .fa (.t 1) 5⟩,
  ⟨(some 108), 0, (some (106, true)), .ld (.t 107) none⟩,
  ⟨(some 109), 203, (some (106, true)), .call (.c (.fn 122)) [((.t 108), .plain)]⟩,
  ⟨(some 110), 0, none, .pick (.t 106) (.t 109) (.c (.bool false))⟩,
  ⟨(some 2), 0, none, .mv (.t 110)⟩]) .ret)) (.seq (.reg [⟨(some 112), 0, none, .bin .eql (.t 6) (.c (.int .i64 13))⟩,
  ⟨(some 111), 0, none, .mv (.t 112)⟩]) (.cond (.t 111) (.seq (.reg [⟨(some 113), 0, none, .fa (.t 3) 1⟩,
  ⟨none, 0, none, .st (.t 113) (.c (.bool false)) none⟩]) (.seq (.reg [⟨(some 114), 0, none, .ld (.t 3) (some 4)⟩,
  ⟨(some 115), 0, none, .ld (.t 1) (some 8)⟩,
  ⟨(some 116), 213, none, .call (.c (.fn 117)) [((.t 114), .plain), ((.t 115), .plain)]⟩,
  ⟨(some 117), 0, none, .mv (.t 116)⟩,
  ⟨(some 118), 0, (some (117, true)), .ld (.t 1) (some 8)⟩,
  ⟨(some 119), 223, (some (117, true)), .call (.c (.fn 120)) [((.t 118), .plain)]⟩,
  ⟨(some 120), 0, none, .pick (.t 117) (.t 119) (.c (.bool false))⟩,
  ⟨(some 121), 0, none, .mv (.t 120)⟩,
  ⟨(some 122), 0, (some (121, true)), .ld (.t 1) (some 8)⟩,
  ⟨(some 123), 233, (some (121, true)), .call (.c (.fn 118)) [((.t 122), .plain), ((.c (.int .i64 1)), .plain), ((.c (.int .i64 24)), .plain)]⟩,
  ⟨(some 124), 0, none, .pick (.t 121) (.t 123) (.c (.bool false))⟩,
  ⟨(some 2), 0, none, .mv (.t 124)⟩]) .ret)) (.seq (.reg [⟨(some 126), 0, none, .bin .eql (.t 6) (.c (.int .i64 14))⟩,
  ⟨(some 125), 0, none, .mv (.t 126)⟩]) (.cond (.t 125) (.seq (.reg [⟨(some 127), 0, none, .fa (.t 3) 3⟩,
  ⟨none, 0, none, .st (.t 127) (.c (.bool false)) none⟩]) (.seq (.reg [⟨(some 128), 0, none, .ld (.t 3) (some 4)⟩,
  ⟨(some 129), 0, none, .ld (.t 1) (some 8)⟩,
  ⟨(some 130), 243, none, .call (.c (.fn 117)) [((.t 128), .plain), ((.t 129), .plain)]⟩,
  ⟨(some 131), 0, none, .mv (.t 130)⟩,
  ⟨(some 132), 0, (some (131, true)), .ld (.t 1) (some 8)⟩,
  ⟨(some 133), 253, (some (131, true)), .call (.c (.fn 123)) [((.t 132), .plain)]⟩,
  ⟨(some 134), 0, none, .pick (.t 131) (.t 133) (.c (.bool false))⟩,
  ⟨(some 2), 0, none, .mv (.t 134)⟩]) .ret)) (.seq (.reg [⟨(some 136), 0, none, .bin .eql (.t 6) (.c (.int .i64 15))⟩,
  ⟨(some 135), 0, none, .mv (.t 136)⟩]) (.cond (.t 135) (.seq (.reg [⟨(some 137), 0, none, .fa (.t 3) 2⟩,
  ⟨none, 0, none, .st (.t 137) (.c (.bool false)) none⟩,
  ⟨(some 138), 0, none, .fa (.t 3) 3⟩,
  ⟨none, 0, none, .st (.t 138) (.c (.bool false)) none⟩]) (.seq (.reg [⟨(some 139), 0, none, .ld (.t 3) (some 4)⟩,
  ⟨(some 140), 0, none, .ld (.t 1) (some 8)⟩,
  ⟨(some 141), 263, none, .call (.c (.fn 117)) [((.t 139), .plain), ((.t 140), .plain)]⟩,
  ⟨(some 142), 0, none, .mv (.t 141)⟩,
  ⟨(some 143), 0, (some (142, true)), .fa (.t 1) 5⟩,
  ⟨(some 144), 0, (some (142, true)), .ld (.t 143) none⟩,
  ⟨(some 145), 273, (some (142, true)), .call (.c (.fn 122)) [((.t 144), .plain)]⟩,
  ⟨(some 146), 0, none, .pick (.t 142) (.t 145) (.c (.bool false))⟩,
  ⟨(some 147), 0, none, .mv (.t 146)⟩,
  ⟨(some 148), 0, (some (147, true)), .fa (.t 1) 6⟩,
  ⟨(some 149), 0, (some (147, true)), .ld (.t 148) none⟩,
  ⟨(some 150), 283, (some (147, true)), .call (.c (.fn 122)) [((.t 149), .plain)]⟩,
  ⟨(some 151), 0, none, .pick (.t 147) (.t 150) (.c (.bool false))⟩,
  ⟨(some 152), 0, none, .mv (.t 151)⟩,
  ⟨(some 153), 0, (some (152, true)), .fa (.t 1) 5⟩,
  ⟨(some 154), 0, (some (152, true)), .ld (.t 153) none⟩,
  ⟨(some 155), 0, (some (152, true)), .fa (.t 1) 6⟩,
  ⟨(some 156), 0, (some (152, true)), .ld (.t 155) none⟩,
  ⟨(some 157), 0, (some (152, true)), .bin .neq (.t 154) (.t 156)⟩,
  ⟨(some 158), 0, none, .pick (.t 152) (.t 157) (.c (.bool false))⟩,
  ⟨(some 159), 0, none, .mv (.t 158)⟩,
  ⟨(some 160), 0, (some (159, true)), .ld (.t 1) (some 8)⟩,
  ⟨(some 161), 293, (some (159, true)), .call (.c (.fn 123)) [((.t 160), .plain)]⟩,
  ⟨(some 162), 0, none, .pick (.t 159) (.t 161) (.c (.bool false))⟩,
  ⟨(some 2), 0, none, .mv (.t 162)⟩]) .ret)) .skip)))))))))))))))))))))))))) (.seq (.reg [⟨(some 163), 0, none, .ld (.t 3) (some 4)⟩,
  ⟨(some 164), 0, none, .ld (.t 1) (some 8)⟩,
  ⟨(some 165), 303, none, .call (.c (.fn 117)) [((.t 163), .plain), ((.t 164), .plain)]⟩,
  ⟨(some 2), 0, none, .mv (.t 165)⟩]) .ret))))
def rs80 : List (Nat × Option Nat × Mode) := [(2, none, .plain)]
theorem chk80 : chkC Try.prog Try.f80.ntmps b80 (Try.f80.body.getD .skip) = true := by decide +kernel
theorem top80 {args : List Arg} {out : Out} (ha : args.length.ble Try.f80.ntmps = true) (h8 : args.length.ble 8 = true) (mss : List (List (Option Nat))) (hb : backOK args out.back)
    (hw : rnC Try.prog b80 (topQ rs80 args mss out) (slotsOf (argsAV argBase args 0) 0) (argsOb argBase args 0)) : CW Try.prog 80 args out :=
  CW.of Try.func80 rs80 mss (by decide +kernel) (by decide +kernel) (by decide +kernel) ha h8 chk80 hb hw
/- endonym/table.Right -/
def b54 : IC := (.seq (.reg [⟨(some 1), 1, none, .box (.t 0)⟩,
  ⟨(some 2), 0, none, .mv (.c (.int .i64 0))⟩]) (.seq (.seq (.reg [⟨(some 4), 0, none, .fa (.t 1) 0⟩,
  ⟨(some 5), 0, none, .ld (.t 4) none⟩,
  ⟨(some 6), 2, none, .call (.c (.fn 28)) [((.t 5), .plain)]⟩,
  ⟨(some 7), 0, none, .bin .eql (.t 6) (.c (.int .i64 0))⟩]) (.cond (.t 7) (.seq (.reg [⟨(some 2), 0, none, .mv (.c (.int .i64 60))⟩]) .ret) .skip)) (.seq (.reg [⟨(some 8), 0, none, .fa (.t 1) 1⟩,
  ⟨(some 9), 0, none, .ld (.t 8) none⟩,
  ⟨(some 10), 0, none, .bin .geq (.t 9) (.c (.int .i64 0))⟩,
  ⟨(some 11), 0, none, .mv (.t 10)⟩,
  ⟨(some 12), 0, (some (11, true)), .fa (.t 1) 1⟩,
  ⟨(some 13), 0, (some (11, true)), .ld (.t 12) none⟩,
  ⟨(some 14), 0, (some (11, true)), .fa (.t 1) 2⟩,
  ⟨(some 15), 0, (some (11, true)), .ld (.t 14) none⟩,
  ⟨(some 16), 0, (some (11, true)), .bin .leq (.t 13) (.t 15)⟩,
  ⟨(some 17), 0, none, .pick (.t 11) (.t 16) (.c (.bool false))⟩,
  ⟨(some 18), 0, none, .mv (.t 17)⟩,
  ⟨(some 19), 0, (some (18, true)), .fa (.t 1) 2⟩,
  ⟨(some 20), 0, (some (18, true)), .ld (.t 19) none⟩,
  ⟨(some 21), 0, (some (18, true)), .bin .leq (.t 20) (.c (.int .i64 1114111))⟩,
  ⟨(some 22), 0, none, .pick (.t 18) (.t 21) (.c (.bool false))⟩,
  ⟨(some 3), 0, none, .mv (.t 22)⟩]) (.seq (.seq (.reg [⟨(some 23), 0, none, .fa (.t 1) 0⟩,
  ⟨(some 24), 0, none, .ld (.t 23) none⟩,
  ⟨(some 25), 0, none, .bin .eql (.t 24) (.c (.int .i64 15))⟩]) (.cond (.t 25) (.reg [⟨(some 26), 0, none, .fa (.t 1) 1⟩,
  ⟨(some 27), 0, none, .ld (.t 26) none⟩,
  ⟨(some 28), 0, none, .bin .eql (.t 27) (.c (.int .i64 0))⟩,
  ⟨(some 29), 0, none, .mv (.t 28)⟩,
  ⟨(some 30), 0, (some (29, true)), .fa (.t 1) 2⟩,
  ⟨(some 31), 0, (some (29, true)), .ld (.t 30) none⟩,
  ⟨(some 32), 0, (some (29, true)), .bin .eql (.t 31) (.c (.int .i64 0))⟩,
  ⟨(some 33), 0, none, .pick (.t 29) (.t 32) (.c (.bool false))⟩,
  ⟨(some 3), 0, none, .mv (.t 33)⟩]) .skip)) (.seq (.seq (.reg [⟨(some 34), 0, none, .mv (.t 3)⟩,
  ⟨(some 35), 0, none, .not (.t 34)⟩,
  ⟨(some 36), 0, none, .mv (.t 35)⟩,
  ⟨(some 37), 0, (some (36, false)), .ld (.t 1) (some 8)⟩,
  ⟨(some 38), 12, (some (36, false)), .call (.c (.fn 80)) [((.t 37), .plain)]⟩,
  ⟨(some 39), 0, (some (36, false)), .not (.t 38)⟩,
  ⟨(some 40), 0, none, .pick (.t 36) (.c (.bool true)) (.t 39)⟩]) (.cond (.t 40) (.seq (.reg [⟨(some 2), 0, none, .mv (.c (.int .i64 61))⟩]) .ret) .skip)) (.seq (.reg [⟨(some 2), 0, none, .mv (.c (.int .i64 0))⟩]) .ret))))))
def rs54 : List (Nat × Option Nat × Mode) := [(2, none, .plain)]
theorem chk54 : chkC Try.prog Try.f54.ntmps b54 (Try.f54.body.getD .skip) = true := by decide +kernel
theorem top54 {args : List Arg} {out : Out} (ha : args.length.ble Try.f54.ntmps = true) (h8 : args.length.ble 8 = true) (mss : List (List (Option Nat))) (hb : backOK args out.back)
    (hw : rnC Try.prog b54 (topQ rs54 args mss out) (slotsOf (argsAV argBase args 0) 0) (argsOb argBase args 0)) : CW Try.prog 54 args out :=
  CW.of Try.func54 rs54 mss (by decide +kernel) (by decide +kernel) (by decide +kernel) ha h8 chk54 hb hw
/- endonym/table.meet -/
def l55_0 : IC := (.seq (.reg [⟨(some 52), 0, none, .bin .lss (.t 51) (.c (.int .i64 64))⟩]) (.seq (.cond (.t 52) .skip (.exit 0)) (.seq (.block 1 (.seq (.seq (.reg [⟨(some 53), 0, none, .mv (.t 7)⟩,
  ⟨(some 54), 0, none, .mv (.t 6)⟩,
  ⟨(some 55), 0, none, .bin .gtr (.t 53) (.t 54)⟩]) (.cond (.t 55) (.seq (.reg [⟨(some 4), 0, none, .mv (.c (.bool false))⟩]) .ret) .skip)) (.seq (.seq (.reg [⟨(some 56), 0, none, .ld (.t 3) (some 8)⟩,
  ⟨(some 57), 0, none, .mv (.t 7)⟩,
  ⟨(some 58), 3, none, .call (.c (.fn 66)) [((.t 56), .plain), ((.t 57), .plain)]⟩]) (.cond (.t 58) (.seq (.reg [⟨(some 4), 0, none, .mv (.c (.bool true))⟩]) .ret) .skip)) (.reg [⟨(some 59), 0, none, .mv (.t 7)⟩,
  ⟨(some 60), 0, none, .fa (.t 2) 3⟩,
  ⟨(some 61), 0, none, .ld (.t 60) none⟩,
  ⟨(some 62), 0, none, .bin .add (.t 59) (.t 61)⟩,
  ⟨(some 7), 0, none, .mv (.t 62)⟩])))) (.reg [⟨(some 63), 0, none, .bin .add (.t 51) (.c (.int .i64 1))⟩,
  ⟨(some 51), 0, none, .mv (.t 63)⟩]))))
def b55 : IC := (.seq (.reg [⟨(some 2), 1, none, .box (.t 0)⟩,
  ⟨(some 3), 2, none, .box (.t 1)⟩,
  ⟨(some 4), 0, none, .mv (.c (.bool false))⟩]) (.seq (.seq (.reg [⟨(some 8), 0, none, .fa (.t 2) 0⟩,
  ⟨(some 9), 0, none, .ld (.t 8) none⟩,
  ⟨(some 10), 0, none, .bin .neq (.t 9) (.c (.int .i64 4))⟩]) (.cond (.t 10) (.reg [⟨(some 11), 0, none, .ld (.t 3) (some 8)⟩,
  ⟨(some 12), 0, none, .ld (.t 2) (some 8)⟩,
  ⟨none, 0, none, .st (.t 2) (.t 11) (some 8)⟩,
  ⟨none, 0, none, .st (.t 3) (.t 12) (some 8)⟩]) .skip)) (.seq (.draw (.take 0 ⟨(some 13), 0, none, .fa (.t 2) 1⟩ (.take 1 ⟨(some 14), 0, none, .ld (.t 13) none⟩ (.take 2 ⟨(some 15), 0, none, .fa (.t 3) 1⟩ (.take 3 ⟨(some 16), 0, none, .ld (.t 15) none⟩ (.take 4 ⟨(some 17), 0, none, .mx (.t 14) (.t 16)⟩ (.take 5 ⟨(some 18), 0, none, .fa (.t 2) 2⟩ (.take 6 ⟨(some 19), 0, none, .ld (.t 18) none⟩ (.take 7 ⟨(some 20), 0, none, .fa (.t 3) 2⟩ (.take 8 ⟨(some 21), 0, none, .ld (.t 20) none⟩ (.take 9 ⟨(some 22), 0, none, .mn (.t 19) (.t 21)⟩ (.take 10 ⟨(some 5), 0, none, .mv (.t 17)⟩ (.take 11 ⟨(some 6), 0, none, .mv (.t 22)⟩ .done))))))))))))) (.seq (.seq (.reg [⟨(some 23), 0, none, .fa (.t 2) 0⟩,
  ⟨(some 24), 0, none, .ld (.t 23) none⟩,
  ⟨(some 25), 0, none, .bin .neq (.t 24) (.c (.int .i64 4))⟩,
  ⟨(some 26), 0, none, .mv (.t 25)⟩,
  ⟨(some 27), 0, (some (26, false)), .mv (.t 5)⟩,
  ⟨(some 28), 0, (some (26, false)), .mv (.t 6)⟩,
  ⟨(some 29), 0, (some (26, false)), .bin .gtr (.t 27) (.t 28)⟩,
  ⟨(some 30), 0, none, .pick (.t 26) (.c (.bool true)) (.t 29)⟩]) (.cond (.t 30) (.seq (.reg [⟨(some 31), 0, none, .mv (.t 5)⟩,
  ⟨(some 32), 0, none, .mv (.t 6)⟩,
  ⟨(some 33), 0, none, .bin .leq (.t 31) (.t 32)⟩,
  ⟨(some 4), 0, none, .mv (.t 33)⟩]) .ret) .skip)) (.seq (.draw (.take 0 ⟨(some 34), 0, none, .fa (.t 2) 1⟩ (.take 1 ⟨(some 35), 0, none, .ld (.t 34) none⟩ (.take 2 ⟨(some 36), 0, none, .mv (.t 5)⟩ (.take 3 ⟨(some 37), 0, none, .fa (.t 2) 1⟩ (.take 4 ⟨(some 38), 0, none, .ld (.t 37) none⟩ (.take 5 ⟨(some 39), 0, none, .bin .sub (.t 36) (.t 38)⟩ (.take 6 ⟨(some 40), 0, none, .fa (.t 2) 3⟩ (.take 7 ⟨(some 41), 0, none, .ld (.t 40) none⟩ (.take 8 ⟨(some 42), 0, none, .bin .add (.t 39) (.t 41)⟩ (.take 9 ⟨(some 43), 0, none, .bin .sub (.t 42) (.c (.int .i64 1))⟩ (.take 10 ⟨(some 44), 0, none, .fa (.t 2) 3⟩ (.take 11 ⟨(some 45), 0, none, .ld (.t 44) none⟩ (.take 12 ⟨(some 46), 0, none, .bin .quo (.t 43) (.t 45)⟩ (.take 13 ⟨(some 47), 0, none, .fa (.t 2) 3⟩ (.take 14 ⟨(some 48), 0, none, .ld (.t 47) none⟩ (.take 15 ⟨(some 49), 0, none, .bin .mul (.t 46) (.t 48)⟩ (.take 16 ⟨(some 50), 0, none, .bin .add (.t 35) (.t 49)⟩ (.take 17 ⟨(some 7), 0, none, .mv (.t 50)⟩ .done))))))))))))))))))) (.seq (.seq (.reg [⟨(some 51), 0, none, .mv (.c (.int .i64 0))⟩]) (.block 0 (.loop0 [2, 3, 6, 7, 51] l55_0))) (.seq (.reg [⟨(some 4), 0, none, .mv (.c (.bool false))⟩]) .ret)))))))
def rs55 : List (Nat × Option Nat × Mode) := [(4, none, .plain)]
theorem chk55 : chkC Try.prog Try.f55.ntmps b55 (Try.f55.body.getD .skip) = true := by decide +kernel
theorem top55 {args : List Arg} {out : Out} (ha : args.length.ble Try.f55.ntmps = true) (h8 : args.length.ble 8 = true) (mss : List (List (Option Nat))) (hb : backOK args out.back)
    (hw : rnC Try.prog b55 (topQ rs55 args mss out) (slotsOf (argsAV argBase args 0) 0) (argsOb argBase args 0)) : CW Try.prog 55 args out :=
  CW.of Try.func55 rs55 mss (by decide +kernel) (by decide +kernel) (by decide +kernel) ha h8 chk55 hb hw

/-- The fields are as the kind has them. -/
def fitsR (r : Rec) : Bool :=
  if r.kind = 3 then noneR true false true true r && soundR r 1 24 else
  if r.kind = 4 then noneR false false true true r && shiftsR r else
  if r.kind = 5 then noneR true false true true r && oneR r && soundR r 0 24 else
  if r.kind = 6 then noneR false true true true r && (decide (1 ≤ r.n) && decide (r.n ≤ 254)) else
  if r.kind = 7 then noneR true false true true r && oneR r && soundR r 2 2 else
  if r.kind = 8 then noneR true false true true r && oneR r && soundR r 1 2 else
  if r.kind = 9 then noneR false true true true r && (decide (0 ≤ r.n) && decide (r.n ≤ 10)) else
  if r.kind = 10 then noneR false true true true r && (decide (0 ≤ r.n) && decide (r.n ≤ 5)) else
  if r.kind = 12 then noneR true true false true r && nameS r.name else
  if r.kind = 13 then noneR true false true true r && oneR r && soundR r 1 24 else
  if r.kind = 14 then noneR true true true false r && weighsR r else
  if r.kind = 15 then noneR true true false false r && nameS r.name && nameS r.other && !decide (r.name.data.toList = r.other.data.toList) && weighsR r else
  noneR true true true true r
theorem w80 (r : Rec) (hn : r.to.length < 9223372036854775808) (Q : Ex → Slots → LH → Prop) (hQ : ∀ σ H, Slots.get σ 2 = .c (.bool (fitsR r)) → Q .ret σ H) : rnC Try.prog b80 Q [(0, .c (Rec.cv r))] [] := by
  unfold b80
  simp only [go_sem, ↓reduceIte, Nat.reduceEqDiff, Nat.reduceMul, Nat.reduceAdd, Nat.reduceDiv, Nat.reduceSub, Nat.reduceLT, Nat.reduceLeDiff, Int.reduceLE, Int.reduceLT, Int.reduceToNat, Int.reduceEq]
  refine ⟨fun h3 => ?_, fun h3 => ?_⟩
  · refine callK_1 _ (fun _ => cw117 _ _ _ _ r) (by simp only [go_sem, ↓reduceIte, Nat.reduceEqDiff, Nat.reduceMul, Nat.reduceAdd, Nat.reduceDiv, Nat.reduceSub, Nat.reduceLT, Nat.reduceLeDiff, Int.reduceLE, Int.reduceLT, Int.reduceToNat, Int.reduceEq]) rfl rfl ?_
    simp only [go_sem, ↓reduceIte, Nat.reduceEqDiff, Nat.reduceMul, Nat.reduceAdd, Nat.reduceDiv, Nat.reduceSub, Nat.reduceLT, Nat.reduceLeDiff, Int.reduceLE, Int.reduceLT, Int.reduceToNat, Int.reduceEq]
    repeat (refine ⟨by (first | omega | (intro h1 h2; exact ⟨h1, h2⟩) | (intro h1; omega) | (intro h1; exact h1) | trivial), ?_⟩)
    refine callK_1 _ (fun _ => cw118 r _ _ hn) (by simp only [go_sem, ↓reduceIte, Nat.reduceEqDiff, Nat.reduceMul, Nat.reduceAdd, Nat.reduceDiv, Nat.reduceSub, Nat.reduceLT, Nat.reduceLeDiff, Int.reduceLE, Int.reduceLT, Int.reduceToNat, Int.reduceEq]) rfl rfl ?_
    simp only [go_sem, ↓reduceIte, Nat.reduceEqDiff, Nat.reduceMul, Nat.reduceAdd, Nat.reduceDiv, Nat.reduceSub, Nat.reduceLT, Nat.reduceLeDiff, Int.reduceLE, Int.reduceLT, Int.reduceToNat, Int.reduceEq]
    repeat (refine ⟨by (first | omega | (intro h1 h2; exact ⟨h1, h2⟩) | (intro h1; omega) | (intro h1; exact h1) | trivial), ?_⟩)
    apply hQ
    all_goals simp only [go_sem, ↓reduceIte, Nat.reduceEqDiff, Nat.reduceMul, Nat.reduceAdd, Nat.reduceDiv, Nat.reduceSub, Nat.reduceLT, Nat.reduceLeDiff, Int.reduceLE, Int.reduceLT, Int.reduceToNat, Int.reduceEq, fitsR, if_pos h3, Bool.and_assoc]
  refine ⟨fun h4 => ?_, fun h4 => ?_⟩
  · refine callK_1 _ (fun _ => cw117 _ _ _ _ r) (by simp only [go_sem, ↓reduceIte, Nat.reduceEqDiff, Nat.reduceMul, Nat.reduceAdd, Nat.reduceDiv, Nat.reduceSub, Nat.reduceLT, Nat.reduceLeDiff, Int.reduceLE, Int.reduceLT, Int.reduceToNat, Int.reduceEq]) rfl rfl ?_
    simp only [go_sem, ↓reduceIte, Nat.reduceEqDiff, Nat.reduceMul, Nat.reduceAdd, Nat.reduceDiv, Nat.reduceSub, Nat.reduceLT, Nat.reduceLeDiff, Int.reduceLE, Int.reduceLT, Int.reduceToNat, Int.reduceEq]
    repeat (refine ⟨by (first | omega | (intro h1 h2; exact ⟨h1, h2⟩) | (intro h1; omega) | (intro h1; exact h1) | trivial), ?_⟩)
    refine callK_1 _ (fun _ => cw119 r) (by simp only [go_sem, ↓reduceIte, Nat.reduceEqDiff, Nat.reduceMul, Nat.reduceAdd, Nat.reduceDiv, Nat.reduceSub, Nat.reduceLT, Nat.reduceLeDiff, Int.reduceLE, Int.reduceLT, Int.reduceToNat, Int.reduceEq]) rfl rfl ?_
    simp only [go_sem, ↓reduceIte, Nat.reduceEqDiff, Nat.reduceMul, Nat.reduceAdd, Nat.reduceDiv, Nat.reduceSub, Nat.reduceLT, Nat.reduceLeDiff, Int.reduceLE, Int.reduceLT, Int.reduceToNat, Int.reduceEq]
    repeat (refine ⟨by (first | omega | (intro h1 h2; exact ⟨h1, h2⟩) | (intro h1; omega) | (intro h1; exact h1) | trivial), ?_⟩)
    apply hQ
    all_goals simp only [go_sem, ↓reduceIte, Nat.reduceEqDiff, Nat.reduceMul, Nat.reduceAdd, Nat.reduceDiv, Nat.reduceSub, Nat.reduceLT, Nat.reduceLeDiff, Int.reduceLE, Int.reduceLT, Int.reduceToNat, Int.reduceEq, fitsR, if_pos h4, if_neg h3, Bool.and_assoc]
  refine ⟨fun h5 => ?_, fun h5 => ?_⟩
  · refine callK_1 _ (fun _ => cw117 _ _ _ _ r) (by simp only [go_sem, ↓reduceIte, Nat.reduceEqDiff, Nat.reduceMul, Nat.reduceAdd, Nat.reduceDiv, Nat.reduceSub, Nat.reduceLT, Nat.reduceLeDiff, Int.reduceLE, Int.reduceLT, Int.reduceToNat, Int.reduceEq]) rfl rfl ?_
    simp only [go_sem, ↓reduceIte, Nat.reduceEqDiff, Nat.reduceMul, Nat.reduceAdd, Nat.reduceDiv, Nat.reduceSub, Nat.reduceLT, Nat.reduceLeDiff, Int.reduceLE, Int.reduceLT, Int.reduceToNat, Int.reduceEq]
    repeat (refine ⟨by (first | omega | (intro h1 h2; exact ⟨h1, h2⟩) | (intro h1; omega) | (intro h1; exact h1) | trivial), ?_⟩)
    refine callK_1 _ (fun _ => cw120 r) (by simp only [go_sem, ↓reduceIte, Nat.reduceEqDiff, Nat.reduceMul, Nat.reduceAdd, Nat.reduceDiv, Nat.reduceSub, Nat.reduceLT, Nat.reduceLeDiff, Int.reduceLE, Int.reduceLT, Int.reduceToNat, Int.reduceEq]) rfl rfl ?_
    simp only [go_sem, ↓reduceIte, Nat.reduceEqDiff, Nat.reduceMul, Nat.reduceAdd, Nat.reduceDiv, Nat.reduceSub, Nat.reduceLT, Nat.reduceLeDiff, Int.reduceLE, Int.reduceLT, Int.reduceToNat, Int.reduceEq]
    repeat (refine ⟨by (first | omega | (intro h1 h2; exact ⟨h1, h2⟩) | (intro h1; omega) | (intro h1; exact h1) | trivial), ?_⟩)
    refine callK_1 _ (fun _ => cw118 r _ _ hn) (by simp only [go_sem, ↓reduceIte, Nat.reduceEqDiff, Nat.reduceMul, Nat.reduceAdd, Nat.reduceDiv, Nat.reduceSub, Nat.reduceLT, Nat.reduceLeDiff, Int.reduceLE, Int.reduceLT, Int.reduceToNat, Int.reduceEq]) rfl rfl ?_
    simp only [go_sem, ↓reduceIte, Nat.reduceEqDiff, Nat.reduceMul, Nat.reduceAdd, Nat.reduceDiv, Nat.reduceSub, Nat.reduceLT, Nat.reduceLeDiff, Int.reduceLE, Int.reduceLT, Int.reduceToNat, Int.reduceEq]
    repeat (refine ⟨by (first | omega | (intro h1 h2; exact ⟨h1, h2⟩) | (intro h1; omega) | (intro h1; exact h1) | trivial), ?_⟩)
    apply hQ
    all_goals simp only [go_sem, ↓reduceIte, Nat.reduceEqDiff, Nat.reduceMul, Nat.reduceAdd, Nat.reduceDiv, Nat.reduceSub, Nat.reduceLT, Nat.reduceLeDiff, Int.reduceLE, Int.reduceLT, Int.reduceToNat, Int.reduceEq, fitsR, if_pos h5, if_neg h3, if_neg h4, Bool.and_assoc]
  refine ⟨fun h6 => ?_, fun h6 => ?_⟩
  · refine callK_1 _ (fun _ => cw117 _ _ _ _ r) (by simp only [go_sem, ↓reduceIte, Nat.reduceEqDiff, Nat.reduceMul, Nat.reduceAdd, Nat.reduceDiv, Nat.reduceSub, Nat.reduceLT, Nat.reduceLeDiff, Int.reduceLE, Int.reduceLT, Int.reduceToNat, Int.reduceEq]) rfl rfl ?_
    simp only [go_sem, ↓reduceIte, Nat.reduceEqDiff, Nat.reduceMul, Nat.reduceAdd, Nat.reduceDiv, Nat.reduceSub, Nat.reduceLT, Nat.reduceLeDiff, Int.reduceLE, Int.reduceLT, Int.reduceToNat, Int.reduceEq]
    repeat (refine ⟨by (first | omega | (intro h1 h2; exact ⟨h1, h2⟩) | (intro h1; omega) | (intro h1; exact h1) | trivial), ?_⟩)
    refine callK_1 _ (fun _ => cw121 r _ _) (by simp only [go_sem, ↓reduceIte, Nat.reduceEqDiff, Nat.reduceMul, Nat.reduceAdd, Nat.reduceDiv, Nat.reduceSub, Nat.reduceLT, Nat.reduceLeDiff, Int.reduceLE, Int.reduceLT, Int.reduceToNat, Int.reduceEq]) rfl rfl ?_
    simp only [go_sem, ↓reduceIte, Nat.reduceEqDiff, Nat.reduceMul, Nat.reduceAdd, Nat.reduceDiv, Nat.reduceSub, Nat.reduceLT, Nat.reduceLeDiff, Int.reduceLE, Int.reduceLT, Int.reduceToNat, Int.reduceEq]
    repeat (refine ⟨by (first | omega | (intro h1 h2; exact ⟨h1, h2⟩) | (intro h1; omega) | (intro h1; exact h1) | trivial), ?_⟩)
    apply hQ
    all_goals simp only [go_sem, ↓reduceIte, Nat.reduceEqDiff, Nat.reduceMul, Nat.reduceAdd, Nat.reduceDiv, Nat.reduceSub, Nat.reduceLT, Nat.reduceLeDiff, Int.reduceLE, Int.reduceLT, Int.reduceToNat, Int.reduceEq, fitsR, if_pos h6, if_neg h3, if_neg h4, if_neg h5, Bool.and_assoc]
  refine ⟨fun h7 => ?_, fun h7 => ?_⟩
  · refine callK_1 _ (fun _ => cw117 _ _ _ _ r) (by simp only [go_sem, ↓reduceIte, Nat.reduceEqDiff, Nat.reduceMul, Nat.reduceAdd, Nat.reduceDiv, Nat.reduceSub, Nat.reduceLT, Nat.reduceLeDiff, Int.reduceLE, Int.reduceLT, Int.reduceToNat, Int.reduceEq]) rfl rfl ?_
    simp only [go_sem, ↓reduceIte, Nat.reduceEqDiff, Nat.reduceMul, Nat.reduceAdd, Nat.reduceDiv, Nat.reduceSub, Nat.reduceLT, Nat.reduceLeDiff, Int.reduceLE, Int.reduceLT, Int.reduceToNat, Int.reduceEq]
    repeat (refine ⟨by (first | omega | (intro h1 h2; exact ⟨h1, h2⟩) | (intro h1; omega) | (intro h1; exact h1) | trivial), ?_⟩)
    refine callK_1 _ (fun _ => cw120 r) (by simp only [go_sem, ↓reduceIte, Nat.reduceEqDiff, Nat.reduceMul, Nat.reduceAdd, Nat.reduceDiv, Nat.reduceSub, Nat.reduceLT, Nat.reduceLeDiff, Int.reduceLE, Int.reduceLT, Int.reduceToNat, Int.reduceEq]) rfl rfl ?_
    simp only [go_sem, ↓reduceIte, Nat.reduceEqDiff, Nat.reduceMul, Nat.reduceAdd, Nat.reduceDiv, Nat.reduceSub, Nat.reduceLT, Nat.reduceLeDiff, Int.reduceLE, Int.reduceLT, Int.reduceToNat, Int.reduceEq]
    repeat (refine ⟨by (first | omega | (intro h1 h2; exact ⟨h1, h2⟩) | (intro h1; omega) | (intro h1; exact h1) | trivial), ?_⟩)
    refine callK_1 _ (fun _ => cw118 r _ _ hn) (by simp only [go_sem, ↓reduceIte, Nat.reduceEqDiff, Nat.reduceMul, Nat.reduceAdd, Nat.reduceDiv, Nat.reduceSub, Nat.reduceLT, Nat.reduceLeDiff, Int.reduceLE, Int.reduceLT, Int.reduceToNat, Int.reduceEq]) rfl rfl ?_
    simp only [go_sem, ↓reduceIte, Nat.reduceEqDiff, Nat.reduceMul, Nat.reduceAdd, Nat.reduceDiv, Nat.reduceSub, Nat.reduceLT, Nat.reduceLeDiff, Int.reduceLE, Int.reduceLT, Int.reduceToNat, Int.reduceEq]
    repeat (refine ⟨by (first | omega | (intro h1 h2; exact ⟨h1, h2⟩) | (intro h1; omega) | (intro h1; exact h1) | trivial), ?_⟩)
    apply hQ
    all_goals simp only [go_sem, ↓reduceIte, Nat.reduceEqDiff, Nat.reduceMul, Nat.reduceAdd, Nat.reduceDiv, Nat.reduceSub, Nat.reduceLT, Nat.reduceLeDiff, Int.reduceLE, Int.reduceLT, Int.reduceToNat, Int.reduceEq, fitsR, if_pos h7, if_neg h3, if_neg h4, if_neg h5, if_neg h6, Bool.and_assoc]
  refine ⟨fun h8 => ?_, fun h8 => ?_⟩
  · refine callK_1 _ (fun _ => cw117 _ _ _ _ r) (by simp only [go_sem, ↓reduceIte, Nat.reduceEqDiff, Nat.reduceMul, Nat.reduceAdd, Nat.reduceDiv, Nat.reduceSub, Nat.reduceLT, Nat.reduceLeDiff, Int.reduceLE, Int.reduceLT, Int.reduceToNat, Int.reduceEq]) rfl rfl ?_
    simp only [go_sem, ↓reduceIte, Nat.reduceEqDiff, Nat.reduceMul, Nat.reduceAdd, Nat.reduceDiv, Nat.reduceSub, Nat.reduceLT, Nat.reduceLeDiff, Int.reduceLE, Int.reduceLT, Int.reduceToNat, Int.reduceEq]
    repeat (refine ⟨by (first | omega | (intro h1 h2; exact ⟨h1, h2⟩) | (intro h1; omega) | (intro h1; exact h1) | trivial), ?_⟩)
    refine callK_1 _ (fun _ => cw120 r) (by simp only [go_sem, ↓reduceIte, Nat.reduceEqDiff, Nat.reduceMul, Nat.reduceAdd, Nat.reduceDiv, Nat.reduceSub, Nat.reduceLT, Nat.reduceLeDiff, Int.reduceLE, Int.reduceLT, Int.reduceToNat, Int.reduceEq]) rfl rfl ?_
    simp only [go_sem, ↓reduceIte, Nat.reduceEqDiff, Nat.reduceMul, Nat.reduceAdd, Nat.reduceDiv, Nat.reduceSub, Nat.reduceLT, Nat.reduceLeDiff, Int.reduceLE, Int.reduceLT, Int.reduceToNat, Int.reduceEq]
    repeat (refine ⟨by (first | omega | (intro h1 h2; exact ⟨h1, h2⟩) | (intro h1; omega) | (intro h1; exact h1) | trivial), ?_⟩)
    refine callK_1 _ (fun _ => cw118 r _ _ hn) (by simp only [go_sem, ↓reduceIte, Nat.reduceEqDiff, Nat.reduceMul, Nat.reduceAdd, Nat.reduceDiv, Nat.reduceSub, Nat.reduceLT, Nat.reduceLeDiff, Int.reduceLE, Int.reduceLT, Int.reduceToNat, Int.reduceEq]) rfl rfl ?_
    simp only [go_sem, ↓reduceIte, Nat.reduceEqDiff, Nat.reduceMul, Nat.reduceAdd, Nat.reduceDiv, Nat.reduceSub, Nat.reduceLT, Nat.reduceLeDiff, Int.reduceLE, Int.reduceLT, Int.reduceToNat, Int.reduceEq]
    repeat (refine ⟨by (first | omega | (intro h1 h2; exact ⟨h1, h2⟩) | (intro h1; omega) | (intro h1; exact h1) | trivial), ?_⟩)
    apply hQ
    all_goals simp only [go_sem, ↓reduceIte, Nat.reduceEqDiff, Nat.reduceMul, Nat.reduceAdd, Nat.reduceDiv, Nat.reduceSub, Nat.reduceLT, Nat.reduceLeDiff, Int.reduceLE, Int.reduceLT, Int.reduceToNat, Int.reduceEq, fitsR, if_pos h8, if_neg h3, if_neg h4, if_neg h5, if_neg h6, if_neg h7, Bool.and_assoc]
  refine ⟨fun h9 => ?_, fun h9 => ?_⟩
  · refine callK_1 _ (fun _ => cw117 _ _ _ _ r) (by simp only [go_sem, ↓reduceIte, Nat.reduceEqDiff, Nat.reduceMul, Nat.reduceAdd, Nat.reduceDiv, Nat.reduceSub, Nat.reduceLT, Nat.reduceLeDiff, Int.reduceLE, Int.reduceLT, Int.reduceToNat, Int.reduceEq]) rfl rfl ?_
    simp only [go_sem, ↓reduceIte, Nat.reduceEqDiff, Nat.reduceMul, Nat.reduceAdd, Nat.reduceDiv, Nat.reduceSub, Nat.reduceLT, Nat.reduceLeDiff, Int.reduceLE, Int.reduceLT, Int.reduceToNat, Int.reduceEq]
    repeat (refine ⟨by (first | omega | (intro h1 h2; exact ⟨h1, h2⟩) | (intro h1; omega) | (intro h1; exact h1) | trivial), ?_⟩)
    refine callK_1 _ (fun _ => cw121 r _ _) (by simp only [go_sem, ↓reduceIte, Nat.reduceEqDiff, Nat.reduceMul, Nat.reduceAdd, Nat.reduceDiv, Nat.reduceSub, Nat.reduceLT, Nat.reduceLeDiff, Int.reduceLE, Int.reduceLT, Int.reduceToNat, Int.reduceEq]) rfl rfl ?_
    simp only [go_sem, ↓reduceIte, Nat.reduceEqDiff, Nat.reduceMul, Nat.reduceAdd, Nat.reduceDiv, Nat.reduceSub, Nat.reduceLT, Nat.reduceLeDiff, Int.reduceLE, Int.reduceLT, Int.reduceToNat, Int.reduceEq]
    repeat (refine ⟨by (first | omega | (intro h1 h2; exact ⟨h1, h2⟩) | (intro h1; omega) | (intro h1; exact h1) | trivial), ?_⟩)
    apply hQ
    all_goals simp only [go_sem, ↓reduceIte, Nat.reduceEqDiff, Nat.reduceMul, Nat.reduceAdd, Nat.reduceDiv, Nat.reduceSub, Nat.reduceLT, Nat.reduceLeDiff, Int.reduceLE, Int.reduceLT, Int.reduceToNat, Int.reduceEq, fitsR, if_pos h9, if_neg h3, if_neg h4, if_neg h5, if_neg h6, if_neg h7, if_neg h8, Bool.and_assoc]
  refine ⟨fun h10 => ?_, fun h10 => ?_⟩
  · refine callK_1 _ (fun _ => cw117 _ _ _ _ r) (by simp only [go_sem, ↓reduceIte, Nat.reduceEqDiff, Nat.reduceMul, Nat.reduceAdd, Nat.reduceDiv, Nat.reduceSub, Nat.reduceLT, Nat.reduceLeDiff, Int.reduceLE, Int.reduceLT, Int.reduceToNat, Int.reduceEq]) rfl rfl ?_
    simp only [go_sem, ↓reduceIte, Nat.reduceEqDiff, Nat.reduceMul, Nat.reduceAdd, Nat.reduceDiv, Nat.reduceSub, Nat.reduceLT, Nat.reduceLeDiff, Int.reduceLE, Int.reduceLT, Int.reduceToNat, Int.reduceEq]
    repeat (refine ⟨by (first | omega | (intro h1 h2; exact ⟨h1, h2⟩) | (intro h1; omega) | (intro h1; exact h1) | trivial), ?_⟩)
    refine callK_1 _ (fun _ => cw121 r _ _) (by simp only [go_sem, ↓reduceIte, Nat.reduceEqDiff, Nat.reduceMul, Nat.reduceAdd, Nat.reduceDiv, Nat.reduceSub, Nat.reduceLT, Nat.reduceLeDiff, Int.reduceLE, Int.reduceLT, Int.reduceToNat, Int.reduceEq]) rfl rfl ?_
    simp only [go_sem, ↓reduceIte, Nat.reduceEqDiff, Nat.reduceMul, Nat.reduceAdd, Nat.reduceDiv, Nat.reduceSub, Nat.reduceLT, Nat.reduceLeDiff, Int.reduceLE, Int.reduceLT, Int.reduceToNat, Int.reduceEq]
    repeat (refine ⟨by (first | omega | (intro h1 h2; exact ⟨h1, h2⟩) | (intro h1; omega) | (intro h1; exact h1) | trivial), ?_⟩)
    apply hQ
    all_goals simp only [go_sem, ↓reduceIte, Nat.reduceEqDiff, Nat.reduceMul, Nat.reduceAdd, Nat.reduceDiv, Nat.reduceSub, Nat.reduceLT, Nat.reduceLeDiff, Int.reduceLE, Int.reduceLT, Int.reduceToNat, Int.reduceEq, fitsR, if_pos h10, if_neg h3, if_neg h4, if_neg h5, if_neg h6, if_neg h7, if_neg h8, if_neg h9, Bool.and_assoc]
  refine ⟨fun h12 => ?_, fun h12 => ?_⟩
  · refine callK_1 _ (fun _ => cw117 _ _ _ _ r) (by simp only [go_sem, ↓reduceIte, Nat.reduceEqDiff, Nat.reduceMul, Nat.reduceAdd, Nat.reduceDiv, Nat.reduceSub, Nat.reduceLT, Nat.reduceLeDiff, Int.reduceLE, Int.reduceLT, Int.reduceToNat, Int.reduceEq]) rfl rfl ?_
    simp only [go_sem, ↓reduceIte, Nat.reduceEqDiff, Nat.reduceMul, Nat.reduceAdd, Nat.reduceDiv, Nat.reduceSub, Nat.reduceLT, Nat.reduceLeDiff, Int.reduceLE, Int.reduceLT, Int.reduceToNat, Int.reduceEq]
    repeat (refine ⟨by (first | omega | (intro h1 h2; exact ⟨h1, h2⟩) | (intro h1; omega) | (intro h1; exact h1) | trivial), ?_⟩)
    refine callK_1 _ (fun _ => cw122 _) (by simp only [go_sem, ↓reduceIte, Nat.reduceEqDiff, Nat.reduceMul, Nat.reduceAdd, Nat.reduceDiv, Nat.reduceSub, Nat.reduceLT, Nat.reduceLeDiff, Int.reduceLE, Int.reduceLT, Int.reduceToNat, Int.reduceEq]) rfl rfl ?_
    simp only [go_sem, ↓reduceIte, Nat.reduceEqDiff, Nat.reduceMul, Nat.reduceAdd, Nat.reduceDiv, Nat.reduceSub, Nat.reduceLT, Nat.reduceLeDiff, Int.reduceLE, Int.reduceLT, Int.reduceToNat, Int.reduceEq]
    repeat (refine ⟨by (first | omega | (intro h1 h2; exact ⟨h1, h2⟩) | (intro h1; omega) | (intro h1; exact h1) | trivial), ?_⟩)
    apply hQ
    all_goals simp only [go_sem, ↓reduceIte, Nat.reduceEqDiff, Nat.reduceMul, Nat.reduceAdd, Nat.reduceDiv, Nat.reduceSub, Nat.reduceLT, Nat.reduceLeDiff, Int.reduceLE, Int.reduceLT, Int.reduceToNat, Int.reduceEq, fitsR, if_pos h12, if_neg h3, if_neg h4, if_neg h5, if_neg h6, if_neg h7, if_neg h8, if_neg h9, if_neg h10, Bool.and_assoc]
  refine ⟨fun h13 => ?_, fun h13 => ?_⟩
  · refine callK_1 _ (fun _ => cw117 _ _ _ _ r) (by simp only [go_sem, ↓reduceIte, Nat.reduceEqDiff, Nat.reduceMul, Nat.reduceAdd, Nat.reduceDiv, Nat.reduceSub, Nat.reduceLT, Nat.reduceLeDiff, Int.reduceLE, Int.reduceLT, Int.reduceToNat, Int.reduceEq]) rfl rfl ?_
    simp only [go_sem, ↓reduceIte, Nat.reduceEqDiff, Nat.reduceMul, Nat.reduceAdd, Nat.reduceDiv, Nat.reduceSub, Nat.reduceLT, Nat.reduceLeDiff, Int.reduceLE, Int.reduceLT, Int.reduceToNat, Int.reduceEq]
    repeat (refine ⟨by (first | omega | (intro h1 h2; exact ⟨h1, h2⟩) | (intro h1; omega) | (intro h1; exact h1) | trivial), ?_⟩)
    refine callK_1 _ (fun _ => cw120 r) (by simp only [go_sem, ↓reduceIte, Nat.reduceEqDiff, Nat.reduceMul, Nat.reduceAdd, Nat.reduceDiv, Nat.reduceSub, Nat.reduceLT, Nat.reduceLeDiff, Int.reduceLE, Int.reduceLT, Int.reduceToNat, Int.reduceEq]) rfl rfl ?_
    simp only [go_sem, ↓reduceIte, Nat.reduceEqDiff, Nat.reduceMul, Nat.reduceAdd, Nat.reduceDiv, Nat.reduceSub, Nat.reduceLT, Nat.reduceLeDiff, Int.reduceLE, Int.reduceLT, Int.reduceToNat, Int.reduceEq]
    repeat (refine ⟨by (first | omega | (intro h1 h2; exact ⟨h1, h2⟩) | (intro h1; omega) | (intro h1; exact h1) | trivial), ?_⟩)
    refine callK_1 _ (fun _ => cw118 r _ _ hn) (by simp only [go_sem, ↓reduceIte, Nat.reduceEqDiff, Nat.reduceMul, Nat.reduceAdd, Nat.reduceDiv, Nat.reduceSub, Nat.reduceLT, Nat.reduceLeDiff, Int.reduceLE, Int.reduceLT, Int.reduceToNat, Int.reduceEq]) rfl rfl ?_
    simp only [go_sem, ↓reduceIte, Nat.reduceEqDiff, Nat.reduceMul, Nat.reduceAdd, Nat.reduceDiv, Nat.reduceSub, Nat.reduceLT, Nat.reduceLeDiff, Int.reduceLE, Int.reduceLT, Int.reduceToNat, Int.reduceEq]
    repeat (refine ⟨by (first | omega | (intro h1 h2; exact ⟨h1, h2⟩) | (intro h1; omega) | (intro h1; exact h1) | trivial), ?_⟩)
    apply hQ
    all_goals simp only [go_sem, ↓reduceIte, Nat.reduceEqDiff, Nat.reduceMul, Nat.reduceAdd, Nat.reduceDiv, Nat.reduceSub, Nat.reduceLT, Nat.reduceLeDiff, Int.reduceLE, Int.reduceLT, Int.reduceToNat, Int.reduceEq, fitsR, if_pos h13, if_neg h3, if_neg h4, if_neg h5, if_neg h6, if_neg h7, if_neg h8, if_neg h9, if_neg h10, if_neg h12, Bool.and_assoc]
  refine ⟨fun h14 => ?_, fun h14 => ?_⟩
  · refine callK_1 _ (fun _ => cw117 _ _ _ _ r) (by simp only [go_sem, ↓reduceIte, Nat.reduceEqDiff, Nat.reduceMul, Nat.reduceAdd, Nat.reduceDiv, Nat.reduceSub, Nat.reduceLT, Nat.reduceLeDiff, Int.reduceLE, Int.reduceLT, Int.reduceToNat, Int.reduceEq]) rfl rfl ?_
    simp only [go_sem, ↓reduceIte, Nat.reduceEqDiff, Nat.reduceMul, Nat.reduceAdd, Nat.reduceDiv, Nat.reduceSub, Nat.reduceLT, Nat.reduceLeDiff, Int.reduceLE, Int.reduceLT, Int.reduceToNat, Int.reduceEq]
    repeat (refine ⟨by (first | omega | (intro h1 h2; exact ⟨h1, h2⟩) | (intro h1; omega) | (intro h1; exact h1) | trivial), ?_⟩)
    refine callK_1 _ (fun _ => cw123 r) (by simp only [go_sem, ↓reduceIte, Nat.reduceEqDiff, Nat.reduceMul, Nat.reduceAdd, Nat.reduceDiv, Nat.reduceSub, Nat.reduceLT, Nat.reduceLeDiff, Int.reduceLE, Int.reduceLT, Int.reduceToNat, Int.reduceEq]) rfl rfl ?_
    simp only [go_sem, ↓reduceIte, Nat.reduceEqDiff, Nat.reduceMul, Nat.reduceAdd, Nat.reduceDiv, Nat.reduceSub, Nat.reduceLT, Nat.reduceLeDiff, Int.reduceLE, Int.reduceLT, Int.reduceToNat, Int.reduceEq]
    repeat (refine ⟨by (first | omega | (intro h1 h2; exact ⟨h1, h2⟩) | (intro h1; omega) | (intro h1; exact h1) | trivial), ?_⟩)
    apply hQ
    all_goals simp only [go_sem, ↓reduceIte, Nat.reduceEqDiff, Nat.reduceMul, Nat.reduceAdd, Nat.reduceDiv, Nat.reduceSub, Nat.reduceLT, Nat.reduceLeDiff, Int.reduceLE, Int.reduceLT, Int.reduceToNat, Int.reduceEq, fitsR, if_pos h14, if_neg h3, if_neg h4, if_neg h5, if_neg h6, if_neg h7, if_neg h8, if_neg h9, if_neg h10, if_neg h12, if_neg h13, Bool.and_assoc]
  refine ⟨fun h15 => ?_, fun h15 => ?_⟩
  · refine callK_1 _ (fun _ => cw117 _ _ _ _ r) (by simp only [go_sem, ↓reduceIte, Nat.reduceEqDiff, Nat.reduceMul, Nat.reduceAdd, Nat.reduceDiv, Nat.reduceSub, Nat.reduceLT, Nat.reduceLeDiff, Int.reduceLE, Int.reduceLT, Int.reduceToNat, Int.reduceEq]) rfl rfl ?_
    simp only [go_sem, ↓reduceIte, Nat.reduceEqDiff, Nat.reduceMul, Nat.reduceAdd, Nat.reduceDiv, Nat.reduceSub, Nat.reduceLT, Nat.reduceLeDiff, Int.reduceLE, Int.reduceLT, Int.reduceToNat, Int.reduceEq]
    repeat (refine ⟨by (first | omega | (intro h1 h2; exact ⟨h1, h2⟩) | (intro h1; omega) | (intro h1; exact h1) | trivial), ?_⟩)
    refine callK_1 _ (fun _ => cw122 _) (by simp only [go_sem, ↓reduceIte, Nat.reduceEqDiff, Nat.reduceMul, Nat.reduceAdd, Nat.reduceDiv, Nat.reduceSub, Nat.reduceLT, Nat.reduceLeDiff, Int.reduceLE, Int.reduceLT, Int.reduceToNat, Int.reduceEq]) rfl rfl ?_
    simp only [go_sem, ↓reduceIte, Nat.reduceEqDiff, Nat.reduceMul, Nat.reduceAdd, Nat.reduceDiv, Nat.reduceSub, Nat.reduceLT, Nat.reduceLeDiff, Int.reduceLE, Int.reduceLT, Int.reduceToNat, Int.reduceEq]
    repeat (refine ⟨by (first | omega | (intro h1 h2; exact ⟨h1, h2⟩) | (intro h1; omega) | (intro h1; exact h1) | trivial), ?_⟩)
    refine callK_1 _ (fun _ => cw122 _) (by simp only [go_sem, ↓reduceIte, Nat.reduceEqDiff, Nat.reduceMul, Nat.reduceAdd, Nat.reduceDiv, Nat.reduceSub, Nat.reduceLT, Nat.reduceLeDiff, Int.reduceLE, Int.reduceLT, Int.reduceToNat, Int.reduceEq]) rfl rfl ?_
    simp only [go_sem, ↓reduceIte, Nat.reduceEqDiff, Nat.reduceMul, Nat.reduceAdd, Nat.reduceDiv, Nat.reduceSub, Nat.reduceLT, Nat.reduceLeDiff, Int.reduceLE, Int.reduceLT, Int.reduceToNat, Int.reduceEq]
    repeat (refine ⟨by (first | omega | (intro h1 h2; exact ⟨h1, h2⟩) | (intro h1; omega) | (intro h1; exact h1) | trivial), ?_⟩)
    refine callK_1 _ (fun _ => cw123 r) (by simp only [go_sem, ↓reduceIte, Nat.reduceEqDiff, Nat.reduceMul, Nat.reduceAdd, Nat.reduceDiv, Nat.reduceSub, Nat.reduceLT, Nat.reduceLeDiff, Int.reduceLE, Int.reduceLT, Int.reduceToNat, Int.reduceEq]) rfl rfl ?_
    simp only [go_sem, ↓reduceIte, Nat.reduceEqDiff, Nat.reduceMul, Nat.reduceAdd, Nat.reduceDiv, Nat.reduceSub, Nat.reduceLT, Nat.reduceLeDiff, Int.reduceLE, Int.reduceLT, Int.reduceToNat, Int.reduceEq]
    repeat (refine ⟨by (first | omega | (intro h1 h2; exact ⟨h1, h2⟩) | (intro h1; omega) | (intro h1; exact h1) | trivial), ?_⟩)
    apply hQ
    all_goals simp only [go_sem, ↓reduceIte, Nat.reduceEqDiff, Nat.reduceMul, Nat.reduceAdd, Nat.reduceDiv, Nat.reduceSub, Nat.reduceLT, Nat.reduceLeDiff, Int.reduceLE, Int.reduceLT, Int.reduceToNat, Int.reduceEq, fitsR, if_pos h15, if_neg h3, if_neg h4, if_neg h5, if_neg h6, if_neg h7, if_neg h8, if_neg h9, if_neg h10, if_neg h12, if_neg h13, if_neg h14, Bool.and_assoc]
  refine callK_1 _ (fun _ => cw117 _ _ _ _ r) (by simp only [go_sem, ↓reduceIte, Nat.reduceEqDiff, Nat.reduceMul, Nat.reduceAdd, Nat.reduceDiv, Nat.reduceSub, Nat.reduceLT, Nat.reduceLeDiff, Int.reduceLE, Int.reduceLT, Int.reduceToNat, Int.reduceEq]) rfl rfl ?_
  simp only [go_sem, ↓reduceIte, Nat.reduceEqDiff, Nat.reduceMul, Nat.reduceAdd, Nat.reduceDiv, Nat.reduceSub, Nat.reduceLT, Nat.reduceLeDiff, Int.reduceLE, Int.reduceLT, Int.reduceToNat, Int.reduceEq]
  repeat (refine ⟨by (first | omega | (intro h1 h2; exact ⟨h1, h2⟩) | (intro h1; omega) | (intro h1; exact h1) | trivial), ?_⟩)
  apply hQ
  all_goals simp only [go_sem, ↓reduceIte, Nat.reduceEqDiff, Nat.reduceMul, Nat.reduceAdd, Nat.reduceDiv, Nat.reduceSub, Nat.reduceLT, Nat.reduceLeDiff, Int.reduceLE, Int.reduceLT, Int.reduceToNat, Int.reduceEq, fitsR, if_neg h3, if_neg h4, if_neg h5, if_neg h6, if_neg h7, if_neg h8, if_neg h9, if_neg h10, if_neg h12, if_neg h13, if_neg h14, if_neg h15]
theorem cw80 (r : Rec) (hn : r.to.length < 9223372036854775808) : CW Try.prog 80 [.cv (Rec.cv r)] ⟨[.cv (.bool (fitsR r))], []⟩ :=
  top80 rfl rfl [] trivial (w80 r hn _ fun σ H h => ret1 rfl h)

/-- What is wrong with a record. -/
def rightR (r : Rec) : Int :=
  if famK r.kind = 0 then 60 else
  if (if r.kind = 15 then r.lo = 0 ∧ r.hi = 0 else 0 ≤ r.lo ∧ r.lo ≤ r.hi ∧ r.hi ≤ 1114111) ∧ fitsR r = true then 0 else 61
theorem w54 (r : Rec) (hn : r.to.length < 9223372036854775808) (Q : Ex → Slots → LH → Prop) (hQ : ∀ σ H, Slots.get σ 2 = .c (.int .i64 (rightR r)) → Q .ret σ H) : rnC Try.prog b54 Q [(0, .c (Rec.cv r))] [] := by
  unfold b54
  simp only [go_sem, ↓reduceIte, Nat.reduceEqDiff, Nat.reduceMul, Nat.reduceAdd, Nat.reduceDiv, Nat.reduceSub, Nat.reduceLT, Nat.reduceLeDiff, Int.reduceLE, Int.reduceLT, Int.reduceToNat, Int.reduceEq]
  repeat (refine ⟨by (first | omega | (intro h1 h2; exact ⟨h1, h2⟩) | (intro h1; omega) | (intro h1; exact h1) | trivial), ?_⟩)
  refine callK_1 _ (fun _ => cw28 _) (by simp only [go_sem, ↓reduceIte, Nat.reduceEqDiff, Nat.reduceMul, Nat.reduceAdd, Nat.reduceDiv, Nat.reduceSub, Nat.reduceLT, Nat.reduceLeDiff, Int.reduceLE, Int.reduceLT, Int.reduceToNat, Int.reduceEq]) rfl rfl ?_
  simp only [go_sem, ↓reduceIte, Nat.reduceEqDiff, Nat.reduceMul, Nat.reduceAdd, Nat.reduceDiv, Nat.reduceSub, Nat.reduceLT, Nat.reduceLeDiff, Int.reduceLE, Int.reduceLT, Int.reduceToNat, Int.reduceEq]
  repeat (refine ⟨by (first | omega | (intro h1 h2; exact ⟨h1, h2⟩) | (intro h1; omega) | (intro h1; exact h1) | trivial), ?_⟩)
  refine ⟨fun h => ?_, fun h => ?_⟩
  · apply hQ
    all_goals simp only [go_sem, ↓reduceIte, Nat.reduceEqDiff, Nat.reduceMul, Nat.reduceAdd, Nat.reduceDiv, Nat.reduceSub, Nat.reduceLT, Nat.reduceLeDiff, Int.reduceLE, Int.reduceLT, Int.reduceToNat, Int.reduceEq, rightR, if_pos h]
  repeat (refine ⟨by (first | omega | (intro h1 h2; exact ⟨h1, h2⟩) | (intro h1; omega) | (intro h1; exact h1) | trivial), ?_⟩)
  refine ⟨fun h15 => ?_, fun h15 => ?_⟩
  all_goals
    repeat (refine ⟨by (first | omega | (intro h1 h2; exact ⟨h1, h2⟩) | (intro h1; omega) | (intro h1; exact h1) | trivial), ?_⟩)
    refine callK_1 _ (fun _ => cw80 r hn) (by simp only [go_sem, ↓reduceIte, Nat.reduceEqDiff, Nat.reduceMul, Nat.reduceAdd, Nat.reduceDiv, Nat.reduceSub, Nat.reduceLT, Nat.reduceLeDiff, Int.reduceLE, Int.reduceLT, Int.reduceToNat, Int.reduceEq]) rfl rfl ?_
    simp only [go_sem, ↓reduceIte, Nat.reduceEqDiff, Nat.reduceMul, Nat.reduceAdd, Nat.reduceDiv, Nat.reduceSub, Nat.reduceLT, Nat.reduceLeDiff, Int.reduceLE, Int.reduceLT, Int.reduceToNat, Int.reduceEq]
    repeat (refine ⟨by (first | omega | (intro h1 h2; exact ⟨h1, h2⟩) | (intro h1; omega) | (intro h1; exact h1) | trivial), ?_⟩)
    refine ⟨fun hh => ?_, fun hh => ?_⟩
    all_goals
      apply hQ
      all_goals simp only [go_sem, ↓reduceIte, Nat.reduceEqDiff, Nat.reduceMul, Nat.reduceAdd, Nat.reduceDiv, Nat.reduceSub, Nat.reduceLT, Nat.reduceLeDiff, Int.reduceLE, Int.reduceLT, Int.reduceToNat, Int.reduceEq, rightR, if_neg h]
      simp only [h15, if_true, if_false]
      first
        | rw [if_pos (by first | exact hh | (exact ⟨⟨hh.1.1.1, hh.1.1.2, hh.1.2⟩, hh.2⟩))]
        | rw [if_neg (fun h' => by
            obtain ⟨h1, h2⟩ := h'
            rcases hh with hh | hh
            · omega
            · rw [h2] at hh; cases hh)]
theorem cw54 (r : Rec) (hn : r.to.length < 9223372036854775808) : CW Try.prog 54 [.cv (Rec.cv r)] ⟨[.cv (.int .i64 (rightR r))], []⟩ :=
  top54 rfl rfl [] trivial (w54 r hn _ fun σ H h => ret1 rfl h)
/-- Two right records of one family speak of one number. -/
def meetC (b : Rec) (hi n : Int) : Nat → Int → Bool
  | 0, _ => false
  | k + 1, c => if hi < c then false else if speaksR b c = true then true else meetC b hi n k (IntKind.i64.wrap (c + n))
def meetS (a b : Rec) : Int := IntKind.i64.wrap (a.lo + IntKind.i64.wrap (IntKind.i64.wrap ((IntKind.i64.wrap (IntKind.i64.wrap (IntKind.i64.wrap ((if a.lo < b.lo then b.lo else a.lo) - a.lo) + a.n) - 1)).tdiv a.n) * a.n))
def meetO (a b : Rec) : Bool :=
  if ¬a.kind = 4 ∨ (if b.hi < a.hi then b.hi else a.hi) < (if a.lo < b.lo then b.lo else a.lo) then decide ((if a.lo < b.lo then b.lo else a.lo) ≤ (if b.hi < a.hi then b.hi else a.hi)) else
  meetC b (if b.hi < a.hi then b.hi else a.hi) a.n 64 (meetS a b)
def meetR (a b : Rec) : Bool := if a.kind = 4 then meetO a b else meetO b a
theorem w55 (a b : Rec) (ha : a.ok) (hb : b.ok) (ha4 : a.kind = 4 → 1 ≤ a.n) (hb4 : b.kind = 4 → 1 ≤ b.n) (Q : Ex → Slots → LH → Prop) (hQ : ∀ σ H, Slots.get σ 4 = .c (.bool (meetR a b)) → Q .ret σ H) : rnC Try.prog b55 Q [(0, .c (Rec.cv a)), (1, .c (Rec.cv b))] [] := by
  unfold b55
  simp only [go_sem, ↓reduceIte, Nat.reduceEqDiff, Nat.reduceMul, Nat.reduceAdd, Nat.reduceDiv, Nat.reduceSub, Nat.reduceLT, Nat.reduceLeDiff, Int.reduceLE, Int.reduceLT, Int.reduceToNat, Int.reduceEq]
  repeat (refine ⟨by (first | omega | (intro h1 h2; exact ⟨h1, h2⟩) | (intro h1; omega) | (intro h1; exact h1) | trivial), ?_⟩)
  refine ⟨fun h4 => ?_, fun h4 => ?_⟩
  · have e4 : meetR a b = meetO b a := by unfold meetR; simp [h4]
    rw [e4] at hQ
    refine ⟨fun h => ?_, fun h => ?_⟩
    · apply hQ
      all_goals simp only [go_sem, ↓reduceIte, Nat.reduceEqDiff, Nat.reduceMul, Nat.reduceAdd, Nat.reduceDiv, Nat.reduceSub, Nat.reduceLT, Nat.reduceLeDiff, Int.reduceLE, Int.reduceLT, Int.reduceToNat, Int.reduceEq, meetO, if_pos h]
    refine ⟨by have := hb4 h.1; omega, ?_⟩
    refine loopZR.by (α := Nat × Int) (fun p => [(2, .ref 64 0), (3, .ref 128 0), (6, .c (.int .i64 (if a.hi < b.hi then a.hi else b.hi))), (7, .c (.int .i64 p.2)), (51, .c (.int .i64 p.1))]) (fun _ => [(64, .obj [.c (.int .i64 b.kind), .c (.int .i64 b.lo), .c (.int .i64 b.hi), .c (.int .i64 b.n), .c (.sl 1 (runes b.to)), .c (.str b.name), .c (.str b.other), .c (.flt b.weight)]), (128, .obj [.c (.int .i64 a.kind), .c (.int .i64 a.lo), .c (.int .i64 a.hi), .c (.int .i64 a.n), .c (.sl 1 (runes a.to)), .c (.str a.name), .c (.str a.other), .c (.flt a.weight)])])
      (fun p => 64 - p.1) (fun p => p.1 ≤ 64 ∧ meetC a (if a.hi < b.hi then a.hi else b.hi) b.n (64 - p.1) p.2 = meetO b a) (0, meetS b a) ⟨Nat.zero_le _, ?_⟩ ?_ ?_
    rotate_left
    · intro Y hY
      simp only [go_sem, ↓reduceIte, Nat.reduceEqDiff, Nat.reduceMul, Nat.reduceAdd, Nat.reduceDiv, Nat.reduceSub, Nat.reduceLT, Nat.reduceLeDiff, Int.reduceLE, Int.reduceLT, Int.reduceToNat, Int.reduceEq]
      exact hY
    · intro p hk Y hY
      obtain ⟨i, c⟩ := p
      obtain ⟨hk1, hk2⟩ := hk
      simp only at hk1 hk2
      unfold l55_0
      simp only [go_sem, ↓reduceIte, Nat.reduceEqDiff, Nat.reduceMul, Nat.reduceAdd, Nat.reduceDiv, Nat.reduceSub, Nat.reduceLT, Nat.reduceLeDiff, Int.reduceLE, Int.reduceLT, Int.reduceToNat, Int.reduceEq]
      refine ⟨fun hi => ?_, fun hi => hQ _ _ ?_⟩
      · have e : 64 - i = (64 - (i + 1)) + 1 := by omega
        rw [e, meetC] at hk2
        refine ⟨fun h1 => hQ _ _ ?_, fun h1 => ?_⟩
        · simp only [go_sem, ↓reduceIte, Nat.reduceEqDiff, Nat.reduceMul, Nat.reduceAdd, Nat.reduceDiv, Nat.reduceSub, Nat.reduceLT, Nat.reduceLeDiff, Int.reduceLE, Int.reduceLT, Int.reduceToNat, Int.reduceEq]
          rw [← hk2, if_pos h1]
        rw [if_neg (by omega)] at hk2
        refine callK_1 _ (fun _ => cw66 a _ ha) (by simp only [go_sem, ↓reduceIte, Nat.reduceEqDiff, Nat.reduceMul, Nat.reduceAdd, Nat.reduceDiv, Nat.reduceSub, Nat.reduceLT, Nat.reduceLeDiff, Int.reduceLE, Int.reduceLT, Int.reduceToNat, Int.reduceEq]) rfl rfl ?_
        simp only [go_sem, ↓reduceIte, Nat.reduceEqDiff, Nat.reduceMul, Nat.reduceAdd, Nat.reduceDiv, Nat.reduceSub, Nat.reduceLT, Nat.reduceLeDiff, Int.reduceLE, Int.reduceLT, Int.reduceToNat, Int.reduceEq]
        repeat (refine ⟨by (first | omega | (intro h1 h2; exact ⟨h1, h2⟩) | (intro h1; omega) | (intro h1; exact h1) | trivial), ?_⟩)
        refine ⟨fun h2 => hQ _ _ ?_, fun h2 => ?_⟩
        · simp only [go_sem, ↓reduceIte, Nat.reduceEqDiff, Nat.reduceMul, Nat.reduceAdd, Nat.reduceDiv, Nat.reduceSub, Nat.reduceLT, Nat.reduceLeDiff, Int.reduceLE, Int.reduceLT, Int.reduceToNat, Int.reduceEq]
          rw [← hk2, if_pos h2]
        · rw [if_neg (by rw [h2]; simp)] at hk2
          rw [succ64 (show i < 64 by omega) (by omega)]
          exact hY (i + 1, _) ⟨by simp only; omega, hk2⟩ (by simp only; omega)
      · have e : 64 - i = 0 := by omega
        rw [e, meetC] at hk2
        simp only [go_sem, ↓reduceIte, Nat.reduceEqDiff, Nat.reduceMul, Nat.reduceAdd, Nat.reduceDiv, Nat.reduceSub, Nat.reduceLT, Nat.reduceLeDiff, Int.reduceLE, Int.reduceLT, Int.reduceToNat, Int.reduceEq]
        rw [← hk2]
    · refine Eq.symm (if_neg ?_)
      rintro (h1 | h1)
      · exact h1 h.1
      · have := h.2; omega
  · have e4 : meetR a b = meetO a b := by unfold meetR; simp [h4]
    rw [e4] at hQ
    refine ⟨fun h => ?_, fun h => ?_⟩
    · apply hQ
      all_goals simp only [go_sem, ↓reduceIte, Nat.reduceEqDiff, Nat.reduceMul, Nat.reduceAdd, Nat.reduceDiv, Nat.reduceSub, Nat.reduceLT, Nat.reduceLeDiff, Int.reduceLE, Int.reduceLT, Int.reduceToNat, Int.reduceEq, meetO, if_pos h]
    refine ⟨by have := ha4 h.1; omega, ?_⟩
    refine loopZR.by (α := Nat × Int) (fun p => [(2, .ref 64 0), (3, .ref 128 0), (6, .c (.int .i64 (if b.hi < a.hi then b.hi else a.hi))), (7, .c (.int .i64 p.2)), (51, .c (.int .i64 p.1))]) (fun _ => [(64, .obj [.c (.int .i64 a.kind), .c (.int .i64 a.lo), .c (.int .i64 a.hi), .c (.int .i64 a.n), .c (.sl 1 (runes a.to)), .c (.str a.name), .c (.str a.other), .c (.flt a.weight)]), (128, .obj [.c (.int .i64 b.kind), .c (.int .i64 b.lo), .c (.int .i64 b.hi), .c (.int .i64 b.n), .c (.sl 1 (runes b.to)), .c (.str b.name), .c (.str b.other), .c (.flt b.weight)])])
      (fun p => 64 - p.1) (fun p => p.1 ≤ 64 ∧ meetC b (if b.hi < a.hi then b.hi else a.hi) a.n (64 - p.1) p.2 = meetO a b) (0, meetS a b) ⟨Nat.zero_le _, ?_⟩ ?_ ?_
    rotate_left
    · intro Y hY
      simp only [go_sem, ↓reduceIte, Nat.reduceEqDiff, Nat.reduceMul, Nat.reduceAdd, Nat.reduceDiv, Nat.reduceSub, Nat.reduceLT, Nat.reduceLeDiff, Int.reduceLE, Int.reduceLT, Int.reduceToNat, Int.reduceEq]
      exact hY
    · intro p hk Y hY
      obtain ⟨i, c⟩ := p
      obtain ⟨hk1, hk2⟩ := hk
      simp only at hk1 hk2
      unfold l55_0
      simp only [go_sem, ↓reduceIte, Nat.reduceEqDiff, Nat.reduceMul, Nat.reduceAdd, Nat.reduceDiv, Nat.reduceSub, Nat.reduceLT, Nat.reduceLeDiff, Int.reduceLE, Int.reduceLT, Int.reduceToNat, Int.reduceEq]
      refine ⟨fun hi => ?_, fun hi => hQ _ _ ?_⟩
      · have e : 64 - i = (64 - (i + 1)) + 1 := by omega
        rw [e, meetC] at hk2
        refine ⟨fun h1 => hQ _ _ ?_, fun h1 => ?_⟩
        · simp only [go_sem, ↓reduceIte, Nat.reduceEqDiff, Nat.reduceMul, Nat.reduceAdd, Nat.reduceDiv, Nat.reduceSub, Nat.reduceLT, Nat.reduceLeDiff, Int.reduceLE, Int.reduceLT, Int.reduceToNat, Int.reduceEq]
          rw [← hk2, if_pos h1]
        rw [if_neg (by omega)] at hk2
        refine callK_1 _ (fun _ => cw66 b _ hb) (by simp only [go_sem, ↓reduceIte, Nat.reduceEqDiff, Nat.reduceMul, Nat.reduceAdd, Nat.reduceDiv, Nat.reduceSub, Nat.reduceLT, Nat.reduceLeDiff, Int.reduceLE, Int.reduceLT, Int.reduceToNat, Int.reduceEq]) rfl rfl ?_
        simp only [go_sem, ↓reduceIte, Nat.reduceEqDiff, Nat.reduceMul, Nat.reduceAdd, Nat.reduceDiv, Nat.reduceSub, Nat.reduceLT, Nat.reduceLeDiff, Int.reduceLE, Int.reduceLT, Int.reduceToNat, Int.reduceEq]
        repeat (refine ⟨by (first | omega | (intro h1 h2; exact ⟨h1, h2⟩) | (intro h1; omega) | (intro h1; exact h1) | trivial), ?_⟩)
        refine ⟨fun h2 => hQ _ _ ?_, fun h2 => ?_⟩
        · simp only [go_sem, ↓reduceIte, Nat.reduceEqDiff, Nat.reduceMul, Nat.reduceAdd, Nat.reduceDiv, Nat.reduceSub, Nat.reduceLT, Nat.reduceLeDiff, Int.reduceLE, Int.reduceLT, Int.reduceToNat, Int.reduceEq]
          rw [← hk2, if_pos h2]
        · rw [if_neg (by rw [h2]; simp)] at hk2
          rw [succ64 (show i < 64 by omega) (by omega)]
          exact hY (i + 1, _) ⟨by simp only; omega, hk2⟩ (by simp only; omega)
      · have e : 64 - i = 0 := by omega
        rw [e, meetC] at hk2
        simp only [go_sem, ↓reduceIte, Nat.reduceEqDiff, Nat.reduceMul, Nat.reduceAdd, Nat.reduceDiv, Nat.reduceSub, Nat.reduceLT, Nat.reduceLeDiff, Int.reduceLE, Int.reduceLT, Int.reduceToNat, Int.reduceEq]
        rw [← hk2]
    · refine Eq.symm (if_neg ?_)
      rintro (h1 | h1)
      · exact h1 h.1
      · have := h.2; omega
theorem cw55 (a b : Rec) (ha : a.ok) (hb : b.ok) (ha4 : a.kind = 4 → 1 ≤ a.n) (hb4 : b.kind = 4 → 1 ≤ b.n) : CW Try.prog 55 [.cv (Rec.cv a), .cv (Rec.cv b)] ⟨[.cv (.bool (meetR a b))], []⟩ :=
  top55 rfl rfl [] trivial (w55 a b ha hb ha4 hb4 _ fun σ H h => ret1 rfl h)
end Go.Proofs.Ytcpdnpaedkcebaa.V
