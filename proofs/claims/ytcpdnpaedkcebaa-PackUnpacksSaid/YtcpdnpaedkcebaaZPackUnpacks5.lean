/- Towards the law PackUnpacks (what pack.Unpack tells), part 5: the texts Xc Xd Xh Xj Yj Pc Pd Xk Xl, what of them is used. -/
import Derived.Test.YtcpdnpaedkcebaaZPackUnpacks4
namespace Go.Proofs.Ytcpdnpaedkcebaa.V
open Go Go.RowKit
set_option linter.unusedVariables false
set_option linter.unusedSimpArgs false
set_option maxRecDepth 100000
def b80 : IC := (.seq (.reg [⟨(some 1), 1, none, .box (.t 0)⟩,
  ⟨(some 2), 0, none, .mv (.c (.bool false))⟩]) (.seq (.reg [⟨(some 4), 0, none, .bld [(.bool false), (.bool false), (.bool false), (.bool false)] [(0, (.c (.bool true))), (1, (.c (.bool true))), (2, (.c (.bool true))), (3, (.c (.bool true)))]⟩,
  ⟨(some 3), 2, none, .alloc [(.bool false), (.bool false), (.bool false), (.bool false)]⟩,
  ⟨none, 0, none, .st (.t 3) (.t 4) (some 4)⟩]) (.seq (.seq (.reg [⟨(some 5), 0, none, .fa (.t 1) 0⟩,
  ⟨(some 6), 0, none, .ld (.t 5) none⟩]) (.block 0 (.seq (.reg [⟨(some 8), 0, none, .bin .eql (.t 6) (.c (.int .i64 3))⟩,
  ⟨(some 7), 0, none, .mv (.t 8)⟩]) (.cond (.t 7) (.seq (.reg [⟨(some 9), 0, none, .fa (.t 3) 1⟩,
  ⟨none, 0, none, .st (.t 9) (.c (.bool false)) none⟩]) (.seq (.reg [⟨(some 10), 0, none, .ld (.t 3) (some 4)⟩,
  ⟨(some 11), 0, none, .ld (.t 1) (some 8)⟩,
  ⟨(some 12), 3, none, .call (.c (.fn 117)) [((.t 10), .plain), ((.t 11), .plain)]⟩,
  ⟨(some 13), 0, none, .mv (.t 12)⟩,
  ⟨(some 14), 0, (some (13, true)), .ld (.t 1) (some 8)⟩,
  ⟨(some 15), 13, (some (13, true)), .call (.c (.fn 118)) [((.t 14), .plain), ((.c (.int .i64 1)), .plain), ((.c (.int .i64 24)), .plain)]⟩,
  ⟨(some 16), 0, none, .pick (.t 13) (.t 15) (.c (.bool false))⟩,
  ⟨(some 2), 0, none, .mv (.t 16)⟩]) .ret)) (.seq (.reg [⟨(some 18), 0, none, .bin .eql (.t 6) (.c (.int .i64 4))⟩,
  ⟨(some 17), 0, none, .mv (.t 18)⟩]) (.cond (.t 17) (.seq (.reg [⟨(some 19), 0, none, .fa (.t 3) 0⟩,
  ⟨none, 0, none, .st (.t 19) (.c (.bool false)) none⟩,
  ⟨(some 20), 0, none, .fa (.t 3) 1⟩,
  ⟨none, 0, none, .st (.t 20) (.c (.bool false)) none⟩]) (.seq (.reg [⟨(some 21), 0, none, .ld (.t 3) (some 4)⟩,
  ⟨(some 22), 0, none, .ld (.t 1) (some 8)⟩,
  ⟨(some 23), 23, none, .call (.c (.fn 117)) [((.t 21), .plain), ((.t 22), .plain)]⟩,
  ⟨(some 24), 0, none, .mv (.t 23)⟩,
  ⟨(some 25), 0, (some (24, true)), .ld (.t 1) (some 8)⟩,
  ⟨(some 26), 33, (some (24, true)), .call (.c (.fn 119)) [((.t 25), .plain)]⟩,
  ⟨(some 27), 0, none, .pick (.t 24) (.t 26) (.c (.bool false))⟩,
  ⟨(some 2), 0, none, .mv (.t 27)⟩]) .ret)) (.seq (.reg [⟨(some 29), 0, none, .bin .eql (.t 6) (.c (.int .i64 5))⟩,
  ⟨(some 28), 0, none, .mv (.t 29)⟩]) (.cond (.t 28) (.seq (.reg [⟨(some 30), 0, none, .fa (.t 3) 1⟩,
  ⟨none, 0, none, .st (.t 30) (.c (.bool false)) none⟩]) (.seq (.reg [⟨(some 31), 0, none, .ld (.t 3) (some 4)⟩,
  ⟨(some 32), 0, none, .ld (.t 1) (some 8)⟩,
  ⟨(some 33), 43, none, .call (.c (.fn 117)) [((.t 31), .plain), ((.t 32), .plain)]⟩,
  ⟨(some 34), 0, none, .mv (.t 33)⟩,
  ⟨(some 35), 0, (some (34, true)), .ld (.t 1) (some 8)⟩,
  ⟨(some 36), 53, (some (34, true)), .call (.c (.fn 120)) [((.t 35), .plain)]⟩,
  ⟨(some 37), 0, none, .pick (.t 34) (.t 36) (.c (.bool false))⟩,
  ⟨(some 38), 0, none, .mv (.t 37)⟩,
  ⟨(some 39), 0, (some (38, true)), .ld (.t 1) (some 8)⟩,
  ⟨(some 40), 63, (some (38, true)), .call (.c (.fn 118)) [((.t 39), .plain), ((.c (.int .i64 0)), .plain), ((.c (.int .i64 24)), .plain)]⟩,
  ⟨(some 41), 0, none, .pick (.t 38) (.t 40) (.c (.bool false))⟩,
  ⟨(some 2), 0, none, .mv (.t 41)⟩]) .ret)) (.seq (.reg [⟨(some 43), 0, none, .bin .eql (.t 6) (.c (.int .i64 6))⟩,
  ⟨(some 42), 0, none, .mv (.t 43)⟩]) (.cond (.t 42) (.seq (.reg [⟨(some 44), 0, none, .fa (.t 3) 0⟩,
  ⟨none, 0, none, .st (.t 44) (.c (.bool false)) none⟩]) (.seq (.reg [⟨(some 45), 0, none, .ld (.t 3) (some 4)⟩,
  ⟨(some 46), 0, none, .ld (.t 1) (some 8)⟩,
  ⟨(some 47), 73, none, .call (.c (.fn 117)) [((.t 45), .plain), ((.t 46), .plain)]⟩,
  ⟨(some 48), 0, none, .mv (.t 47)⟩,
  ⟨(some 49), 0, (some (48, true)), .ld (.t 1) (some 8)⟩,
  ⟨(some 50), 83, (some (48, true)), .call (.c (.fn 121)) [((.t 49), .plain), ((.c (.int .i64 1)), .plain), ((.c (.int .i64 254)), .plain)]⟩,
  ⟨(some 51), 0, none, .pick (.t 48) (.t 50) (.c (.bool false))⟩,
  ⟨(some 2), 0, none, .mv (.t 51)⟩]) .ret)) (.seq (.reg [⟨(some 53), 0, none, .bin .eql (.t 6) (.c (.int .i64 7))⟩,
  ⟨(some 52), 0, none, .mv (.t 53)⟩]) (.cond (.t 52) (.seq (.reg [⟨(some 54), 0, none, .fa (.t 3) 1⟩,
  ⟨none, 0, none, .st (.t 54) (.c (.bool false)) none⟩]) (.seq (.reg [⟨(some 55), 0, none, .ld (.t 3) (some 4)⟩,
  ⟨(some 56), 0, none, .ld (.t 1) (some 8)⟩,
  ⟨(some 57), 93, none, .call (.c (.fn 117)) [((.t 55), .plain), ((.t 56), .plain)]⟩,
  ⟨(some 58), 0, none, .mv (.t 57)⟩,
  ⟨(some 59), 0, (some (58, true)), .ld (.t 1) (some 8)⟩,
  ⟨(some 60), 103, (some (58, true)), .call (.c (.fn 120)) [((.t 59), .plain)]⟩,
  ⟨(some 61), 0, none, .pick (.t 58) (.t 60) (.c (.bool false))⟩,
  ⟨(some 62), 0, none, .mv (.t 61)⟩,
  ⟨(some 63), 0, (some (62, true)), .ld (.t 1) (some 8)⟩,
  ⟨(some 64), 113, (some (62, true)), .call (.c (.fn 118)) [((.t 63), .plain), ((.c (.int .i64 2)), .plain), ((.c (.int .i64 2)), .plain)]⟩,
  ⟨(some 65), 0, none, .pick (.t 62) (.t 64) (.c (.bool false))⟩,
  ⟨(some 2), 0, none, .mv (.t 65)⟩]) .ret)) (.seq (.reg [⟨(some 67), 0, none, .bin .eql (.t 6) (.c (.int .i64 8))⟩,
  ⟨(some 66), 0, none, .mv (.t 67)⟩]) (.cond (.t 66) (.seq (.reg [⟨(some 68), 0, none, .fa (.t 3) 1⟩,
  ⟨none, 0, none, .st (.t 68) (.c (.bool false)) none⟩]) (.seq (.reg [⟨(some 69), 0, none, .ld (.t 3) (some 4)⟩,
  ⟨(some 70), 0, none, .ld (.t 1) (some 8)⟩,
  ⟨(some 71), 123, none, .call (.c (.fn 117)) [((.t 69), .plain), ((.t 70), .plain)]⟩,
  ⟨(some 72), 0, none, .mv (.t 71)⟩,
  ⟨(some 73), 0, (some (72, true)), .ld (.t 1) (some 8)⟩,
  ⟨(some 74), 133, (some (72, true)), .call (.c (.fn 120)) [((.t 73), .plain)]⟩,
  ⟨(some 75), 0, none, .pick (.t 72) (.t 74) (.c (.bool false))⟩,
  ⟨(some 76), 0, none, .mv (.t 75)⟩,
  ⟨(some 77), 0, (some (76, true)), .ld (.t 1) (some 8)⟩,
  ⟨(some 78), 143, (some (76, true)), .call (.c (.fn 118)) [((.t 77), .plain), ((.c (.int .i64 1)), .plain), ((.c (.int .i64 2)), .plain)]⟩,
  ⟨(some 79), 0, none, .pick (.t 76) (.t 78) (.c (.bool false))⟩,
  ⟨(some 2), 0, none, .mv (.t 79)⟩]) .ret)) (.seq (.reg [⟨(some 81), 0, none, .bin .eql (.t 6) (.c (.int .i64 9))⟩,
  ⟨(some 80), 0, none, .mv (.t 81)⟩]) (.cond (.t 80) (.seq (.reg [⟨(some 82), 0, none, .fa (.t 3) 0⟩,
  ⟨none, 0, none, .st (.t 82) (.c (.bool false)) none⟩]) (.seq (.reg [⟨(some 83), 0, none, .ld (.t 3) (some 4)⟩,
  ⟨(some 84), 0, none, .ld (.t 1) (some 8)⟩,
  ⟨(some 85), 153, none, .call (.c (.fn 117)) [((.t 83), .plain), ((.t 84), .plain)]⟩,
  ⟨(some 86), 0, none, .mv (.t 85)⟩,
  ⟨(some 87), 0, (some (86, true)), .ld (.t 1) (some 8)⟩,
  ⟨(some 88), 163, (some (86, true)), .call (.c (.fn 121)) [((.t 87), .plain), ((.c (.int .i64 0)), .plain), ((.c (.int .i64 10)), .plain)]⟩,
  ⟨(some 89), 0, none, .pick (.t 86) (.t 88) (.c (.bool false))⟩,
  ⟨(some 2), 0, none, .mv (.t 89)⟩]) .ret)) (.seq (.reg [⟨(some 91), 0, none, .bin .eql (.t 6) (.c (.int .i64 10))⟩,
  ⟨(some 90), 0, none, .mv (.t 91)⟩]) (.cond (.t 90) (.seq (.reg [⟨(some 92), 0, none, .fa (.t 3) 0⟩,
  ⟨none, 0, none, .st (.t 92) (.c (.bool false)) none⟩]) (.seq (.reg [⟨(some 93), 0, none, .ld (.t 3) (some 4)⟩,
  ⟨(some 94), 0, none, .ld (.t 1) (some 8)⟩,
  ⟨(some 95), 173, none, .call (.c (.fn 117)) [((.t 93), .plain), ((.t 94), .plain)]⟩,
  ⟨(some 96), 0, none, .mv (.t 95)⟩,
  ⟨(some 97), 0, (some (96, true)), .ld (.t 1) (some 8)⟩,
  ⟨(some 98), 183, (some (96, true)), .call (.c (.fn 121)) [((.t 97), .plain), ((.c (.int .i64 0)), .plain), ((.c (.int .i64 5)), .plain)]⟩,
  ⟨(some 99), 0, none, .pick (.t 96) (.t 98) (.c (.bool false))⟩,
  ⟨(some 2), 0, none, .mv (.t 99)⟩]) .ret)) (.seq (.reg [⟨(some 101), 0, none, .bin .eql (.t 6) (.c (.int .i64 12))⟩,
  ⟨(some 100), 0, none, .mv (.t 101)⟩]) (.cond (.t 100) (.seq (.reg [⟨(some 102), 0, none, .fa (.t 3) 2⟩,
  ⟨none, 0, none, .st (.t 102) (.c (.bool false)) none⟩]) (.seq (.reg [⟨(some 103), 0, none, .ld (.t 3) (some 4)⟩,
  ⟨(some 104), 0, none, .ld (.t 1) (some 8)⟩,
  ⟨(some 105), 193, none, .call (.c (.fn 117)) [((.t 103), .plain), ((.t 104), .plain)]⟩,
  ⟨(some 106), 0, none, .mv (.t 105)⟩,
  ⟨(some 107), 0, (some (106, true)), .fa (.t 1) 5⟩,
  ⟨(some 108), 0, (some (106, true)), .ld (.t 107) none⟩,
  ⟨(some 109), 203, (some (106, true)), .call (.c (.fn 122)) [((.t 108), .plain)]⟩,
  ⟨(some 110), 0, none, .pick (.t 106) (.t 109) (.c (.bool false))⟩,
  ⟨(some 2), 0, none, .mv (.t 110)⟩]) .ret)) (.seq (.reg [⟨(some 112), 0, none, .bin .eql (.t 6) (.c (.int .i64 13))⟩,
  ⟨(some 111), 0, none, .mv (.t 112)⟩]) (.cond (.t 111) (.seq (.reg [⟨(some 113), 0, none, .fa (.t 3) 1⟩,
  ⟨none, 0, none, .st (.t 113) (.c (.bool false)) none⟩]) (.seq (.reg [⟨(some 114), 0, none, .ld (.t 3) (some 4)⟩,
  ⟨(some 115), 0, none, .ld (.t 1) (some 8)⟩,
  ⟨(some 116), 213, none, .call (.c (.fn 117)) [((.t 114), .plain), ((.t 115), .plain)]⟩,
  ⟨(some 117), 0, none, .mv (.t 116)⟩,
  ⟨(some 118), 0, (some (117, true)), .ld (.t 1) (some 8)⟩,
  ⟨(some 119), 223, (some (117, true)), .call (.c (.fn 120)) [((.t 118), .plain)]⟩,
  ⟨(some 120), 0, none, .pick (.t 117) (.t 119) (.c (.bool false))⟩,
  ⟨(some 121), 0, none, .mv (.t 120)⟩,
  ⟨(some 122), 0, (some (121, true)), .ld (.t 1) (some 8)⟩,
  ⟨(some 123), 233, (some (121, true)), .call (.c (.fn 118)) [((.t 122), .plain), ((.c (.int .i64 1)), .plain), ((.c (.int .i64 24)), .plain)]⟩,
  ⟨(some 124), 0, none, .pick (.t 121) (.t 123) (.c (.bool false))⟩,
  ⟨(some 2), 0, none, .mv (.t 124)⟩]) .ret)) (.seq (.reg [⟨(some 126), 0, none, .bin .eql (.t 6) (.c (.int .i64 14))⟩,
  ⟨(some 125), 0, none, .mv (.t 126)⟩]) (.cond (.t 125) (.seq (.reg [⟨(some 127), 0, none, .fa (.t 3) 3⟩,
  ⟨none, 0, none, .st (.t 127) (.c (.bool false)) none⟩]) (.seq (.reg [⟨(some 128), 0, none, .ld (.t 3) (some 4)⟩,
  ⟨(some 129), 0, none, .ld (.t 1) (some 8)⟩,
  ⟨(some 130), 243, none, .call (.c (.fn 117)) [((.t 128), .plain), ((.t 129), .plain)]⟩,
  ⟨(some 131), 0, none, .mv (.t 130)⟩,
  ⟨(some 132), 0, (some (131, true)), .ld (.t 1) (some 8)⟩,
  ⟨(some 133), 253, (some (131, true)), .call (.c (.fn 123)) [((.t 132), .plain)]⟩,
  ⟨(some 134), 0, none, .pick (.t 131) (.t 133) (.c (.bool false))⟩,
  ⟨(some 2), 0, none, .mv (.t 134)⟩]) .ret)) (.seq (.reg [⟨(some 136), 0, none, .bin .eql (.t 6) (.c (.int .i64 15))⟩,
  ⟨(some 135), 0, none, .mv (.t 136)⟩]) (.cond (.t 135) (.seq (.reg [⟨(some 137), 0, none, .fa (.t 3) 2⟩,
  ⟨none, 0, none, .st (.t 137) (.c (.bool false)) none⟩,
  ⟨(some 138), 0, none, .fa (.t 3) 3⟩,
  ⟨none, 0, none, .st (.t 138) (.c (.bool false)) none⟩]) (.seq (.reg [⟨(some 139), 0, none, .ld (.t 3) (some 4)⟩,
  ⟨(some 140), 0, none, .ld (.t 1) (some 8)⟩,
  ⟨(some 141), 263, none, .call (.c (.fn 117)) [((.t 139), .plain), ((.t 140), .plain)]⟩,
  ⟨(some 142), 0, none, .mv (.t 141)⟩,
  ⟨(some 143), 0, (some (142, true)), .fa (.t 1) 5⟩,
  ⟨(some 144), 0, (some (142, true)), .ld (.t 143) none⟩,
  ⟨(some 145), 273, (some (142, true)), .call (.c (.fn 122)) [((.t 144), .plain)]⟩,
  ⟨(some 146), 0, none, .pick (.t 142) (.t 145) (.c (.bool false))⟩,
  ⟨(some 147), 0, none, .mv (.t 146)⟩,
  ⟨(some 148), 0, (some (147, true)), .fa (.t 1) 6⟩,
  ⟨(some 149), 0, (some (147, true)), .ld (.t 148) none⟩,
  ⟨(some 150), 283, (some (147, true)), .call (.c (.fn 122)) [((.t 149), .plain)]⟩,
  ⟨(some 151), 0, none, .pick (.t 147) (.t 150) (.c (.bool false))⟩,
  ⟨(some 152), 0, none, .mv (.t 151)⟩,
  ⟨(some 153), 0, (some (152, true)), .fa (.t 1) 5⟩,
  ⟨(some 154), 0, (some (152, true)), .ld (.t 153) none⟩,
  ⟨(some 155), 0, (some (152, true)), .fa (.t 1) 6⟩,
  ⟨(some 156), 0, (some (152, true)), .ld (.t 155) none⟩,
  ⟨(some 157), 0, (some (152, true)), .bin .neq (.t 154) (.t 156)⟩,
  ⟨(some 158), 0, none, .pick (.t 152) (.t 157) (.c (.bool false))⟩,
  ⟨(some 159), 0, none, .mv (.t 158)⟩,
  ⟨(some 160), 0, (some (159, true)), .ld (.t 1) (some 8)⟩,
  ⟨(some 161), 293, (some (159, true)), .call (.c (.fn 123)) [((.t 160), .plain)]⟩,
  ⟨(some 162), 0, none, .pick (.t 159) (.t 161) (.c (.bool false))⟩,
  ⟨(some 2), 0, none, .mv (.t 162)⟩]) .ret)) .skip)))))))))))))))))))))))))) (.seq (.reg [⟨(some 163), 0, none, .ld (.t 3) (some 4)⟩,
  ⟨(some 164), 0, none, .ld (.t 1) (some 8)⟩,
  ⟨(some 165), 303, none, .call (.c (.fn 117)) [((.t 163), .plain), ((.t 164), .plain)]⟩,
  ⟨(some 2), 0, none, .mv (.t 165)⟩]) .ret))))
def rs80 : List (Nat × Option Nat × Mode) := [(2, none, .plain)]
theorem chk80 : chkC Try.prog Try.f80.ntmps b80 (Try.f80.body.getD .skip) = true := by decide +kernel
theorem top80 {args : List Arg} {out : Out} (ha : args.length.ble Try.f80.ntmps = true) (h8 : args.length.ble 8 = true) (mss : List (List (Option Nat))) (hb : backOK args out.back)
    (hw : rnC Try.prog b80 (topQ rs80 args mss out) (slotsOf (argsAV argBase args 0) 0) (argsOb argBase args 0)) : CW Try.prog 80 args out :=
  CW.of Try.func80 rs80 mss (by decide +kernel) (by decide +kernel) (by decide +kernel) ha h8 chk80 hb hw
def b54 : IC := (.seq (.reg [⟨(some 1), 1, none, .box (.t 0)⟩,
  ⟨(some 2), 0, none, .mv (.c (.int .i64 0))⟩]) (.seq (.seq (.reg [⟨(some 4), 0, none, .fa (.t 1) 0⟩,
  ⟨(some 5), 0, none, .ld (.t 4) none⟩,
  ⟨(some 6), 2, none, .call (.c (.fn 28)) [((.t 5), .plain)]⟩,
  ⟨(some 7), 0, none, .bin .eql (.t 6) (.c (.int .i64 0))⟩]) (.cond (.t 7) (.seq (.reg [⟨(some 2), 0, none, .mv (.c (.int .i64 60))⟩]) .ret) .skip)) (.seq (.reg [⟨(some 8), 0, none, .fa (.t 1) 1⟩,
  ⟨(some 9), 0, none, .ld (.t 8) none⟩,
  ⟨(some 10), 0, none, .bin .geq (.t 9) (.c (.int .i64 0))⟩,
  ⟨(some 11), 0, none, .mv (.t 10)⟩,
  ⟨(some 12), 0, (some (11, true)), .fa (.t 1) 1⟩,
  ⟨(some 13), 0, (some (11, true)), .ld (.t 12) none⟩,
  ⟨(some 14), 0, (some (11, true)), .fa (.t 1) 2⟩,
  ⟨(some 15), 0, (some (11, true)), .ld (.t 14) none⟩,
  ⟨(some 16), 0, (some (11, true)), .bin .leq (.t 13) (.t 15)⟩,
  ⟨(some 17), 0, none, .pick (.t 11) (.t 16) (.c (.bool false))⟩,
  ⟨(some 18), 0, none, .mv (.t 17)⟩,
  ⟨(some 19), 0, (some (18, true)), .fa (.t 1) 2⟩,
  ⟨(some 20), 0, (some (18, true)), .ld (.t 19) none⟩,
  ⟨(some 21), 0, (some (18, true)), .bin .leq (.t 20) (.c (.int .i64 1114111))⟩,
  ⟨(some 22), 0, none, .pick (.t 18) (.t 21) (.c (.bool false))⟩,
  ⟨(some 3), 0, none, .mv (.t 22)⟩]) (.seq (.seq (.reg [⟨(some 23), 0, none, .fa (.t 1) 0⟩,
  ⟨(some 24), 0, none, .ld (.t 23) none⟩,
  ⟨(some 25), 0, none, .bin .eql (.t 24) (.c (.int .i64 15))⟩]) (.cond (.t 25) (.reg [⟨(some 26), 0, none, .fa (.t 1) 1⟩,
  ⟨(some 27), 0, none, .ld (.t 26) none⟩,
  ⟨(some 28), 0, none, .bin .eql (.t 27) (.c (.int .i64 0))⟩,
  ⟨(some 29), 0, none, .mv (.t 28)⟩,
  ⟨(some 30), 0, (some (29, true)), .fa (.t 1) 2⟩,
  ⟨(some 31), 0, (some (29, true)), .ld (.t 30) none⟩,
  ⟨(some 32), 0, (some (29, true)), .bin .eql (.t 31) (.c (.int .i64 0))⟩,
  ⟨(some 33), 0, none, .pick (.t 29) (.t 32) (.c (.bool false))⟩,
  ⟨(some 3), 0, none, .mv (.t 33)⟩]) .skip)) (.seq (.seq (.reg [⟨(some 34), 0, none, .mv (.t 3)⟩,
  ⟨(some 35), 0, none, .not (.t 34)⟩,
  ⟨(some 36), 0, none, .mv (.t 35)⟩,
  ⟨(some 37), 0, (some (36, false)), .ld (.t 1) (some 8)⟩,
  ⟨(some 38), 12, (some (36, false)), .call (.c (.fn 80)) [((.t 37), .plain)]⟩,
  ⟨(some 39), 0, (some (36, false)), .not (.t 38)⟩,
  ⟨(some 40), 0, none, .pick (.t 36) (.c (.bool true)) (.t 39)⟩]) (.cond (.t 40) (.seq (.reg [⟨(some 2), 0, none, .mv (.c (.int .i64 61))⟩]) .ret) .skip)) (.seq (.reg [⟨(some 2), 0, none, .mv (.c (.int .i64 0))⟩]) .ret))))))
def rs54 : List (Nat × Option Nat × Mode) := [(2, none, .plain)]
theorem chk54 : chkC Try.prog Try.f54.ntmps b54 (Try.f54.body.getD .skip) = true := by decide +kernel
theorem top54 {args : List Arg} {out : Out} (ha : args.length.ble Try.f54.ntmps = true) (h8 : args.length.ble 8 = true) (mss : List (List (Option Nat))) (hb : backOK args out.back)
    (hw : rnC Try.prog b54 (topQ rs54 args mss out) (slotsOf (argsAV argBase args 0) 0) (argsOb argBase args 0)) : CW Try.prog 54 args out :=
  CW.of Try.func54 rs54 mss (by decide +kernel) (by decide +kernel) (by decide +kernel) ha h8 chk54 hb hw
def l55_0 : IC := (.seq (.reg [⟨(some 52), 0, none, .bin .lss (.t 51) (.c (.int .i64 64))⟩]) (.seq (.cond (.t 52) .skip (.exit 0)) (.seq (.block 1 (.seq (.seq (.reg [⟨(some 53), 0, none, .mv (.t 7)⟩,
  ⟨(some 54), 0, none, .mv (.t 6)⟩,
  ⟨(some 55), 0, none, .bin .gtr (.t 53) (.t 54)⟩]) (.cond (.t 55) (.seq (.reg [⟨(some 4), 0, none, .mv (.c (.bool false))⟩]) .ret) .skip)) (.seq (.seq (.reg [⟨(some 56), 0, none, .ld (.t 3) (some 8)⟩,
  ⟨(some 57), 0, none, .mv (.t 7)⟩,
  ⟨(some 58), 3, none, .call (.c (.fn 66)) [((.t 56), .plain), ((.t 57), .plain)]⟩]) (.cond (.t 58) (.seq (.reg [⟨(some 4), 0, none, .mv (.c (.bool true))⟩]) .ret) .skip)) (.reg [⟨(some 59), 0, none, .mv (.t 7)⟩,
  ⟨(some 60), 0, none, .fa (.t 2) 3⟩,
  ⟨(some 61), 0, none, .ld (.t 60) none⟩,
  ⟨(some 62), 0, none, .bin .add (.t 59) (.t 61)⟩,
  ⟨(some 7), 0, none, .mv (.t 62)⟩])))) (.reg [⟨(some 63), 0, none, .bin .add (.t 51) (.c (.int .i64 1))⟩,
  ⟨(some 51), 0, none, .mv (.t 63)⟩]))))
def b55 : IC := (.seq (.reg [⟨(some 2), 1, none, .box (.t 0)⟩,
  ⟨(some 3), 2, none, .box (.t 1)⟩,
  ⟨(some 4), 0, none, .mv (.c (.bool false))⟩]) (.seq (.seq (.reg [⟨(some 8), 0, none, .fa (.t 2) 0⟩,
  ⟨(some 9), 0, none, .ld (.t 8) none⟩,
  ⟨(some 10), 0, none, .bin .neq (.t 9) (.c (.int .i64 4))⟩]) (.cond (.t 10) (.reg [⟨(some 11), 0, none, .ld (.t 3) (some 8)⟩,
  ⟨(some 12), 0, none, .ld (.t 2) (some 8)⟩,
  ⟨none, 0, none, .st (.t 2) (.t 11) (some 8)⟩,
  ⟨none, 0, none, .st (.t 3) (.t 12) (some 8)⟩]) .skip)) (.seq (.draw (.take 0 ⟨(some 13), 0, none, .fa (.t 2) 1⟩ (.take 1 ⟨(some 14), 0, none, .ld (.t 13) none⟩ (.take 2 ⟨(some 15), 0, none, .fa (.t 3) 1⟩ (.take 3 ⟨(some 16), 0, none, .ld (.t 15) none⟩ (.take 4 ⟨(some 17), 0, none, .mx (.t 14) (.t 16)⟩ (.take 5 ⟨(some 18), 0, none, .fa (.t 2) 2⟩ (.take 6 ⟨(some 19), 0, none, .ld (.t 18) none⟩ (.take 7 ⟨(some 20), 0, none, .fa (.t 3) 2⟩ (.take 8 ⟨(some 21), 0, none, .ld (.t 20) none⟩ (.take 9 ⟨(some 22), 0, none, .mn (.t 19) (.t 21)⟩ (.take 10 ⟨(some 5), 0, none, .mv (.t 17)⟩ (.take 11 ⟨(some 6), 0, none, .mv (.t 22)⟩ .done))))))))))))) (.seq (.seq (.reg [⟨(some 23), 0, none, .fa (.t 2) 0⟩,
  ⟨(some 24), 0, none, .ld (.t 23) none⟩,
  ⟨(some 25), 0, none, .bin .neq (.t 24) (.c (.int .i64 4))⟩,
  ⟨(some 26), 0, none, .mv (.t 25)⟩,
  ⟨(some 27), 0, (some (26, false)), .mv (.t 5)⟩,
  ⟨(some 28), 0, (some (26, false)), .mv (.t 6)⟩,
  ⟨(some 29), 0, (some (26, false)), .bin .gtr (.t 27) (.t 28)⟩,
  ⟨(some 30), 0, none, .pick (.t 26) (.c (.bool true)) (.t 29)⟩]) (.cond (.t 30) (.seq (.reg [⟨(some 31), 0, none, .mv (.t 5)⟩,
  ⟨(some 32), 0, none, .mv (.t 6)⟩,
  ⟨(some 33), 0, none, .bin .leq (.t 31) (.t 32)⟩,
  ⟨(some 4), 0, none, .mv (.t 33)⟩]) .ret) .skip)) (.seq (.draw (.take 0 ⟨(some 34), 0, none, .fa (.t 2) 1⟩ (.take 1 ⟨(some 35), 0, none, .ld (.t 34) none⟩ (.take 2 ⟨(some 36), 0, none, .mv (.t 5)⟩ (.take 3 ⟨(some 37), 0, none, .fa (.t 2) 1⟩ (.take 4 ⟨(some 38), 0, none, .ld (.t 37) none⟩ (.take 5 ⟨(some 39), 0, none, .bin .sub (.t 36) (.t 38)⟩ (.take 6 ⟨(some 40), 0, none, .fa (.t 2) 3⟩ (.take 7 ⟨(some 41), 0, none, .ld (.t 40) none⟩ (.take 8 ⟨(some 42), 0, none, .bin .add (.t 39) (.t 41)⟩ (.take 9 ⟨(some 43), 0, none, .bin .sub (.t 42) (.c (.int .i64 1))⟩ (.take 10 ⟨(some 44), 0, none, .fa (.t 2) 3⟩ (.take 11 ⟨(some 45), 0, none, .ld (.t 44) none⟩ (.take 12 ⟨(some 46), 0, none, .bin .quo (.t 43) (.t 45)⟩ (.take 13 ⟨(some 47), 0, none, .fa (.t 2) 3⟩ (.take 14 ⟨(some 48), 0, none, .ld (.t 47) none⟩ (.take 15 ⟨(some 49), 0, none, .bin .mul (.t 46) (.t 48)⟩ (.take 16 ⟨(some 50), 0, none, .bin .add (.t 35) (.t 49)⟩ (.take 17 ⟨(some 7), 0, none, .mv (.t 50)⟩ .done))))))))))))))))))) (.seq (.seq (.reg [⟨(some 51), 0, none, .mv (.c (.int .i64 0))⟩]) (.block 0 (.loop0 [2, 3, 6, 7, 51] l55_0))) (.seq (.reg [⟨(some 4), 0, none, .mv (.c (.bool false))⟩]) .ret)))))))
def rs55 : List (Nat × Option Nat × Mode) := [(4, none, .plain)]
theorem chk55 : chkC Try.prog Try.f55.ntmps b55 (Try.f55.body.getD .skip) = true := by decide +kernel
theorem top55 {args : List Arg} {out : Out} (ha : args.length.ble Try.f55.ntmps = true) (h8 : args.length.ble 8 = true) (mss : List (List (Option Nat))) (hb : backOK args out.back)
    (hw : rnC Try.prog b55 (topQ rs55 args mss out) (slotsOf (argsAV argBase args 0) 0) (argsOb argBase args 0)) : CW Try.prog 55 args out :=
  CW.of Try.func55 rs55 mss (by decide +kernel) (by decide +kernel) (by decide +kernel) ha h8 chk55 hb hw
def fitsR (r : Rec) : Bool :=
  if r.kind = 3 then noneR true false true true r && soundR r 1 24 else
  if r.kind = 4 then noneR false false true true r && shiftsR r else
  if r.kind = 5 then noneR true false true true r && oneR r && soundR r 0 24 else
  if r.kind = 6 then noneR false true true true r && (decide (1 ≤ r.n) && decide (r.n ≤ 254)) else
  if r.kind = 7 then noneR true false true true r && oneR r && soundR r 2 2 else
  if r.kind = 8 then noneR true false true true r && oneR r && soundR r 1 2 else
  if r.kind = 9 then noneR false true true true r && (decide (0 ≤ r.n) && decide (r.n ≤ 10)) else
  if r.kind = 10 then noneR false true true true r && (decide (0 ≤ r.n) && decide (r.n ≤ 5)) else
  if r.kind = 12 then noneR true true false true r && nameS r.name else
  if r.kind = 13 then noneR true false true true r && oneR r && soundR r 1 24 else
  if r.kind = 14 then noneR true true true false r && weighsR r else
  if r.kind = 15 then noneR true true false false r && nameS r.name && nameS r.other && !decide (r.name.data.toList = r.other.data.toList) && weighsR r else
  noneR true true true true r
theorem w80 (r : Rec) (hn : r.to.length < 9223372036854775808) (Q : Ex → Slots → LH → Prop) (hQ : ∀ σ H, Slots.get σ 2 = .c (.bool (fitsR r)) → Q .ret σ H) : rnC Try.prog b80 Q [(0, .c (Rec.cv r))] [] := by
  unfold b80
  simp only [go_sem, ↓reduceIte, Nat.reduceEqDiff, Nat.reduceMul, Nat.reduceAdd, Nat.reduceDiv, Nat.reduceSub, Nat.reduceLT, Nat.reduceLeDiff, Int.reduceLE, Int.reduceLT, Int.reduceToNat, Int.reduceEq]
  refine ⟨fun h3 => ?_, fun h3 => ?_⟩
  · refine callK_1 _ (fun _ => cw117 _ _ _ _ r) (by simp only [go_sem, ↓reduceIte, Nat.reduceEqDiff, Nat.reduceMul, Nat.reduceAdd, Nat.reduceDiv, Nat.reduceSub, Nat.reduceLT, Nat.reduceLeDiff, Int.reduceLE, Int.reduceLT, Int.reduceToNat, Int.reduceEq]) rfl rfl ?_
    simp only [go_sem, ↓reduceIte, Nat.reduceEqDiff, Nat.reduceMul, Nat.reduceAdd, Nat.reduceDiv, Nat.reduceSub, Nat.reduceLT, Nat.reduceLeDiff, Int.reduceLE, Int.reduceLT, Int.reduceToNat, Int.reduceEq]
    repeat (refine ⟨by (first | omega | (intro h1 h2; exact ⟨h1, h2⟩) | (intro h1; omega) | (intro h1; exact h1) | trivial), ?_⟩)
    refine callK_1 _ (fun _ => cw118 r _ _ hn) (by simp only [go_sem, ↓reduceIte, Nat.reduceEqDiff, Nat.reduceMul, Nat.reduceAdd, Nat.reduceDiv, Nat.reduceSub, Nat.reduceLT, Nat.reduceLeDiff, Int.reduceLE, Int.reduceLT, Int.reduceToNat, Int.reduceEq]) rfl rfl ?_
    simp only [go_sem, ↓reduceIte, Nat.reduceEqDiff, Nat.reduceMul, Nat.reduceAdd, Nat.reduceDiv, Nat.reduceSub, Nat.reduceLT, Nat.reduceLeDiff, Int.reduceLE, Int.reduceLT, Int.reduceToNat, Int.reduceEq]
    repeat (refine ⟨by (first | omega | (intro h1 h2; exact ⟨h1, h2⟩) | (intro h1; omega) | (intro h1; exact h1) | trivial), ?_⟩)
    apply hQ
    all_goals simp only [go_sem, ↓reduceIte, Nat.reduceEqDiff, Nat.reduceMul, Nat.reduceAdd, Nat.reduceDiv, Nat.reduceSub, Nat.reduceLT, Nat.reduceLeDiff, Int.reduceLE, Int.reduceLT, Int.reduceToNat, Int.reduceEq, fitsR, if_pos h3, Bool.and_assoc]
  refine ⟨fun h4 => ?_, fun h4 => ?_⟩
  · refine callK_1 _ (fun _ => cw117 _ _ _ _ r) (by simp only [go_sem, ↓reduceIte, Nat.reduceEqDiff, Nat.reduceMul, Nat.reduceAdd, Nat.reduceDiv, Nat.reduceSub, Nat.reduceLT, Nat.reduceLeDiff, Int.reduceLE, Int.reduceLT, Int.reduceToNat, Int.reduceEq]) rfl rfl ?_
    simp only [go_sem, ↓reduceIte, Nat.reduceEqDiff, Nat.reduceMul, Nat.reduceAdd, Nat.reduceDiv, Nat.reduceSub, Nat.reduceLT, Nat.reduceLeDiff, Int.reduceLE, Int.reduceLT, Int.reduceToNat, Int.reduceEq]
    repeat (refine ⟨by (first | omega | (intro h1 h2; exact ⟨h1, h2⟩) | (intro h1; omega) | (intro h1; exact h1) | trivial), ?_⟩)
    refine callK_1 _ (fun _ => cw119 r) (by simp only [go_sem, ↓reduceIte, Nat.reduceEqDiff, Nat.reduceMul, Nat.reduceAdd, Nat.reduceDiv, Nat.reduceSub, Nat.reduceLT, Nat.reduceLeDiff, Int.reduceLE, Int.reduceLT, Int.reduceToNat, Int.reduceEq]) rfl rfl ?_
    simp only [go_sem, ↓reduceIte, Nat.reduceEqDiff, Nat.reduceMul, Nat.reduceAdd, Nat.reduceDiv, Nat.reduceSub, Nat.reduceLT, Nat.reduceLeDiff, Int.reduceLE, Int.reduceLT, Int.reduceToNat, Int.reduceEq]
    repeat (refine ⟨by (first | omega | (intro h1 h2; exact ⟨h1, h2⟩) | (intro h1; omega) | (intro h1; exact h1) | trivial), ?_⟩)
    apply hQ
    all_goals simp only [go_sem, ↓reduceIte, Nat.reduceEqDiff, Nat.reduceMul, Nat.reduceAdd, Nat.reduceDiv, Nat.reduceSub, Nat.reduceLT, Nat.reduceLeDiff, Int.reduceLE, Int.reduceLT, Int.reduceToNat, Int.reduceEq, fitsR, if_pos h4, if_neg h3, Bool.and_assoc]
  refine ⟨fun h5 => ?_, fun h5 => ?_⟩
  · refine callK_1 _ (fun _ => cw117 _ _ _ _ r) (by simp only [go_sem, ↓reduceIte, Nat.reduceEqDiff, Nat.reduceMul, Nat.reduceAdd, Nat.reduceDiv, Nat.reduceSub, Nat.reduceLT, Nat.reduceLeDiff, Int.reduceLE, Int.reduceLT, Int.reduceToNat, Int.reduceEq]) rfl rfl ?_
    simp only [go_sem, ↓reduceIte, Nat.reduceEqDiff, Nat.reduceMul, Nat.reduceAdd, Nat.reduceDiv, Nat.reduceSub, Nat.reduceLT, Nat.reduceLeDiff, Int.reduceLE, Int.reduceLT, Int.reduceToNat, Int.reduceEq]
    repeat (refine ⟨by (first | omega | (intro h1 h2; exact ⟨h1, h2⟩) | (intro h1; omega) | (intro h1; exact h1) | trivial), ?_⟩)
    refine callK_1 _ (fun _ => cw120 r) (by simp only [go_sem, ↓reduceIte, Nat.reduceEqDiff, Nat.reduceMul, Nat.reduceAdd, Nat.reduceDiv, Nat.reduceSub, Nat.reduceLT, Nat.reduceLeDiff, Int.reduceLE, Int.reduceLT, Int.reduceToNat, Int.reduceEq]) rfl rfl ?_
    simp only [go_sem, ↓reduceIte, Nat.reduceEqDiff, Nat.reduceMul, Nat.reduceAdd, Nat.reduceDiv, Nat.reduceSub, Nat.reduceLT, Nat.reduceLeDiff, Int.reduceLE, Int.reduceLT, Int.reduceToNat, Int.reduceEq]
    repeat (refine ⟨by (first | omega | (intro h1 h2; exact ⟨h1, h2⟩) | (intro h1; omega) | (intro h1; exact h1) | trivial), ?_⟩)
    refine callK_1 _ (fun _ => cw118 r _ _ hn) (by simp only [go_sem, ↓reduceIte, Nat.reduceEqDiff, Nat.reduceMul, Nat.reduceAdd, Nat.reduceDiv, Nat.reduceSub, Nat.reduceLT, Nat.reduceLeDiff, Int.reduceLE, Int.reduceLT, Int.reduceToNat, Int.reduceEq]) rfl rfl ?_
    simp only [go_sem, ↓reduceIte, Nat.reduceEqDiff, Nat.reduceMul, Nat.reduceAdd, Nat.reduceDiv, Nat.reduceSub, Nat.reduceLT, Nat.reduceLeDiff, Int.reduceLE, Int.reduceLT, Int.reduceToNat, Int.reduceEq]
    repeat (refine ⟨by (first | omega | (intro h1 h2; exact ⟨h1, h2⟩) | (intro h1; omega) | (intro h1; exact h1) | trivial), ?_⟩)
    apply hQ
    all_goals simp only [go_sem, ↓reduceIte, Nat.reduceEqDiff, Nat.reduceMul, Nat.reduceAdd, Nat.reduceDiv, Nat.reduceSub, Nat.reduceLT, Nat.reduceLeDiff, Int.reduceLE, Int.reduceLT, Int.reduceToNat, Int.reduceEq, fitsR, if_pos h5, if_neg h3, if_neg h4, Bool.and_assoc]
  refine ⟨fun h6 => ?_, fun h6 => ?_⟩
  · refine callK_1 _ (fun _ => cw117 _ _ _ _ r) (by simp only [go_sem, ↓reduceIte, Nat.reduceEqDiff, Nat.reduceMul, Nat.reduceAdd, Nat.reduceDiv, Nat.reduceSub, Nat.reduceLT, Nat.reduceLeDiff, Int.reduceLE, Int.reduceLT, Int.reduceToNat, Int.reduceEq]) rfl rfl ?_
    simp only [go_sem, ↓reduceIte, Nat.reduceEqDiff, Nat.reduceMul, Nat.reduceAdd, Nat.reduceDiv, Nat.reduceSub, Nat.reduceLT, Nat.reduceLeDiff, Int.reduceLE, Int.reduceLT, Int.reduceToNat, Int.reduceEq]
    repeat (refine ⟨by (first | omega | (intro h1 h2; exact ⟨h1, h2⟩) | (intro h1; omega) | (intro h1; exact h1) | trivial), ?_⟩)
    refine callK_1 _ (fun _ => cw121 r _ _) (by simp only [go_sem, ↓reduceIte, Nat.reduceEqDiff, Nat.reduceMul, Nat.reduceAdd, Nat.reduceDiv, Nat.reduceSub, Nat.reduceLT, Nat.reduceLeDiff, Int.reduceLE, Int.reduceLT, Int.reduceToNat, Int.reduceEq]) rfl rfl ?_
    simp only [go_sem, ↓reduceIte, Nat.reduceEqDiff, Nat.reduceMul, Nat.reduceAdd, Nat.reduceDiv, Nat.reduceSub, Nat.reduceLT, Nat.reduceLeDiff, Int.reduceLE, Int.reduceLT, Int.reduceToNat, Int.reduceEq]
    repeat (refine ⟨by (first | omega | (intro h1 h2; exact ⟨h1, h2⟩) | (intro h1; omega) | (intro h1; exact h1) | trivial), ?_⟩)
    apply hQ
    all_goals simp only [go_sem, ↓reduceIte, Nat.reduceEqDiff, Nat.reduceMul, Nat.reduceAdd, Nat.reduceDiv, Nat.reduceSub, Nat.reduceLT, Nat.reduceLeDiff, Int.reduceLE, Int.reduceLT, Int.reduceToNat, Int.reduceEq, fitsR, if_pos h6, if_neg h3, if_neg h4, if_neg h5, Bool.and_assoc]
  refine ⟨fun h7 => ?_, fun h7 => ?_⟩
  · refine callK_1 _ (fun _ => cw117 _ _ _ _ r) (by simp only [go_sem, ↓reduceIte, Nat.reduceEqDiff, Nat.reduceMul, Nat.reduceAdd, Nat.reduceDiv, Nat.reduceSub, Nat.reduceLT, Nat.reduceLeDiff, Int.reduceLE, Int.reduceLT, Int.reduceToNat, Int.reduceEq]) rfl rfl ?_
    simp only [go_sem, ↓reduceIte, Nat.reduceEqDiff, Nat.reduceMul, Nat.reduceAdd, Nat.reduceDiv, Nat.reduceSub, Nat.reduceLT, Nat.reduceLeDiff, Int.reduceLE, Int.reduceLT, Int.reduceToNat, Int.reduceEq]
    repeat (refine ⟨by (first | omega | (intro h1 h2; exact ⟨h1, h2⟩) | (intro h1; omega) | (intro h1; exact h1) | trivial), ?_⟩)
    refine callK_1 _ (fun _ => cw120 r) (by simp only [go_sem, ↓reduceIte, Nat.reduceEqDiff, Nat.reduceMul, Nat.reduceAdd, Nat.reduceDiv, Nat.reduceSub, Nat.reduceLT, Nat.reduceLeDiff, Int.reduceLE, Int.reduceLT, Int.reduceToNat, Int.reduceEq]) rfl rfl ?_
    simp only [go_sem, ↓reduceIte, Nat.reduceEqDiff, Nat.reduceMul, Nat.reduceAdd, Nat.reduceDiv, Nat.reduceSub, Nat.reduceLT, Nat.reduceLeDiff, Int.reduceLE, Int.reduceLT, Int.reduceToNat, Int.reduceEq]
    repeat (refine ⟨by (first | omega | (intro h1 h2; exact ⟨h1, h2⟩) | (intro h1; omega) | (intro h1; exact h1) | trivial), ?_⟩)
    refine callK_1 _ (fun _ => cw118 r _ _ hn) (by simp only [go_sem, ↓reduceIte, Nat.reduceEqDiff, Nat.reduceMul, Nat.reduceAdd, Nat.reduceDiv, Nat.reduceSub, Nat.reduceLT, Nat.reduceLeDiff, Int.reduceLE, Int.reduceLT, Int.reduceToNat, Int.reduceEq]) rfl rfl ?_
    simp only [go_sem, ↓reduceIte, Nat.reduceEqDiff, Nat.reduceMul, Nat.reduceAdd, Nat.reduceDiv, Nat.reduceSub, Nat.reduceLT, Nat.reduceLeDiff, Int.reduceLE, Int.reduceLT, Int.reduceToNat, Int.reduceEq]
    repeat (refine ⟨by (first | omega | (intro h1 h2; exact ⟨h1, h2⟩) | (intro h1; omega) | (intro h1; exact h1) | trivial), ?_⟩)
    apply hQ
    all_goals simp only [go_sem, ↓reduceIte, Nat.reduceEqDiff, Nat.reduceMul, Nat.reduceAdd, Nat.reduceDiv, Nat.reduceSub, Nat.reduceLT, Nat.reduceLeDiff, Int.reduceLE, Int.reduceLT, Int.reduceToNat, Int.reduceEq, fitsR, if_pos h7, if_neg h3, if_neg h4, if_neg h5, if_neg h6, Bool.and_assoc]
  refine ⟨fun h8 => ?_, fun h8 => ?_⟩
  · refine callK_1 _ (fun _ => cw117 _ _ _ _ r) (by simp only [go_sem, ↓reduceIte, Nat.reduceEqDiff, Nat.reduceMul, Nat.reduceAdd, Nat.reduceDiv, Nat.reduceSub, Nat.reduceLT, Nat.reduceLeDiff, Int.reduceLE, Int.reduceLT, Int.reduceToNat, Int.reduceEq]) rfl rfl ?_
    simp only [go_sem, ↓reduceIte, Nat.reduceEqDiff, Nat.reduceMul, Nat.reduceAdd, Nat.reduceDiv, Nat.reduceSub, Nat.reduceLT, Nat.reduceLeDiff, Int.reduceLE, Int.reduceLT, Int.reduceToNat, Int.reduceEq]
    repeat (refine ⟨by (first | omega | (intro h1 h2; exact ⟨h1, h2⟩) | (intro h1; omega) | (intro h1; exact h1) | trivial), ?_⟩)
    refine callK_1 _ (fun _ => cw120 r) (by simp only [go_sem, ↓reduceIte, Nat.reduceEqDiff, Nat.reduceMul, Nat.reduceAdd, Nat.reduceDiv, Nat.reduceSub, Nat.reduceLT, Nat.reduceLeDiff, Int.reduceLE, Int.reduceLT, Int.reduceToNat, Int.reduceEq]) rfl rfl ?_
    simp only [go_sem, ↓reduceIte, Nat.reduceEqDiff, Nat.reduceMul, Nat.reduceAdd, Nat.reduceDiv, Nat.reduceSub, Nat.reduceLT, Nat.reduceLeDiff, Int.reduceLE, Int.reduceLT, Int.reduceToNat, Int.reduceEq]
    repeat (refine ⟨by (first | omega | (intro h1 h2; exact ⟨h1, h2⟩) | (intro h1; omega) | (intro h1; exact h1) | trivial), ?_⟩)
    refine callK_1 _ (fun _ => cw118 r _ _ hn) (by simp only [go_sem, ↓reduceIte, Nat.reduceEqDiff, Nat.reduceMul, Nat.reduceAdd, Nat.reduceDiv, Nat.reduceSub, Nat.reduceLT, Nat.reduceLeDiff, Int.reduceLE, Int.reduceLT, Int.reduceToNat, Int.reduceEq]) rfl rfl ?_
    simp only [go_sem, ↓reduceIte, Nat.reduceEqDiff, Nat.reduceMul, Nat.reduceAdd, Nat.reduceDiv, Nat.reduceSub, Nat.reduceLT, Nat.reduceLeDiff, Int.reduceLE, Int.reduceLT, Int.reduceToNat, Int.reduceEq]
    repeat (refine ⟨by (first | omega | (intro h1 h2; exact ⟨h1, h2⟩) | (intro h1; omega) | (intro h1; exact h1) | trivial), ?_⟩)
    apply hQ
    all_goals simp only [go_sem, ↓reduceIte, Nat.reduceEqDiff, Nat.reduceMul, Nat.reduceAdd, Nat.reduceDiv, Nat.reduceSub, Nat.reduceLT, Nat.reduceLeDiff, Int.reduceLE, Int.reduceLT, Int.reduceToNat, Int.reduceEq, fitsR, if_pos h8, if_neg h3, if_neg h4, if_neg h5, if_neg h6, if_neg h7, Bool.and_assoc]
  refine ⟨fun h9 => ?_, fun h9 => ?_⟩
  · refine callK_1 _ (fun _ => cw117 _ _ _ _ r) (by simp only [go_sem, ↓reduceIte, Nat.reduceEqDiff, Nat.reduceMul, Nat.reduceAdd, Nat.reduceDiv, Nat.reduceSub, Nat.reduceLT, Nat.reduceLeDiff, Int.reduceLE, Int.reduceLT, Int.reduceToNat, Int.reduceEq]) rfl rfl ?_
    simp only [go_sem, ↓reduceIte, Nat.reduceEqDiff, Nat.reduceMul, Nat.reduceAdd, Nat.reduceDiv, Nat.reduceSub, Nat.reduceLT, Nat.reduceLeDiff, Int.reduceLE, Int.reduceLT, Int.reduceToNat, Int.reduceEq]
    repeat (refine ⟨by (first | omega | (intro h1 h2; exact ⟨h1, h2⟩) | (intro h1; omega) | (intro h1; exact h1) | trivial), ?_⟩)
    refine callK_1 _ (fun _ => cw121 r _ _) (by simp only [go_sem, ↓reduceIte, Nat.reduceEqDiff, Nat.reduceMul, Nat.reduceAdd, Nat.reduceDiv, Nat.reduceSub, Nat.reduceLT, Nat.reduceLeDiff, Int.reduceLE, Int.reduceLT, Int.reduceToNat, Int.reduceEq]) rfl rfl ?_
    simp only [go_sem, ↓reduceIte, Nat.reduceEqDiff, Nat.reduceMul, Nat.reduceAdd, Nat.reduceDiv, Nat.reduceSub, Nat.reduceLT, Nat.reduceLeDiff, Int.reduceLE, Int.reduceLT, Int.reduceToNat, Int.reduceEq]
    repeat (refine ⟨by (first | omega | (intro h1 h2; exact ⟨h1, h2⟩) | (intro h1; omega) | (intro h1; exact h1) | trivial), ?_⟩)
    apply hQ
    all_goals simp only [go_sem, ↓reduceIte, Nat.reduceEqDiff, Nat.reduceMul, Nat.reduceAdd, Nat.reduceDiv, Nat.reduceSub, Nat.reduceLT, Nat.reduceLeDiff, Int.reduceLE, Int.reduceLT, Int.reduceToNat, Int.reduceEq, fitsR, if_pos h9, if_neg h3, if_neg h4, if_neg h5, if_neg h6, if_neg h7, if_neg h8, Bool.and_assoc]
  refine ⟨fun h10 => ?_, fun h10 => ?_⟩
  · refine callK_1 _ (fun _ => cw117 _ _ _ _ r) (by simp only [go_sem, ↓reduceIte, Nat.reduceEqDiff, Nat.reduceMul, Nat.reduceAdd, Nat.reduceDiv, Nat.reduceSub, Nat.reduceLT, Nat.reduceLeDiff, Int.reduceLE, Int.reduceLT, Int.reduceToNat, Int.reduceEq]) rfl rfl ?_
    simp only [go_sem, ↓reduceIte, Nat.reduceEqDiff, Nat.reduceMul, Nat.reduceAdd, Nat.reduceDiv, Nat.reduceSub, Nat.reduceLT, Nat.reduceLeDiff, Int.reduceLE, Int.reduceLT, Int.reduceToNat, Int.reduceEq]
    repeat (refine ⟨by (first | omega | (intro h1 h2; exact ⟨h1, h2⟩) | (intro h1; omega) | (intro h1; exact h1) | trivial), ?_⟩)
    refine callK_1 _ (fun _ => cw121 r _ _) (by simp only [go_sem, ↓reduceIte, Nat.reduceEqDiff, Nat.reduceMul, Nat.reduceAdd, Nat.reduceDiv, Nat.reduceSub, Nat.reduceLT, Nat.reduceLeDiff, Int.reduceLE, Int.reduceLT, Int.reduceToNat, Int.reduceEq]) rfl rfl ?_
    simp only [go_sem, ↓reduceIte, Nat.reduceEqDiff, Nat.reduceMul, Nat.reduceAdd, Nat.reduceDiv, Nat.reduceSub, Nat.reduceLT, Nat.reduceLeDiff, Int.reduceLE, Int.reduceLT, Int.reduceToNat, Int.reduceEq]
    repeat (refine ⟨by (first | omega | (intro h1 h2; exact ⟨h1, h2⟩) | (intro h1; omega) | (intro h1; exact h1) | trivial), ?_⟩)
    apply hQ
    all_goals simp only [go_sem, ↓reduceIte, Nat.reduceEqDiff, Nat.reduceMul, Nat.reduceAdd, Nat.reduceDiv, Nat.reduceSub, Nat.reduceLT, Nat.reduceLeDiff, Int.reduceLE, Int.reduceLT, Int.reduceToNat, Int.reduceEq, fitsR, if_pos h10, if_neg h3, if_neg h4, if_neg h5, if_neg h6, if_neg h7, if_neg h8, if_neg h9, Bool.and_assoc]
  refine ⟨fun h12 => ?_, fun h12 => ?_⟩
  · refine callK_1 _ (fun _ => cw117 _ _ _ _ r) (by simp only [go_sem, ↓reduceIte, Nat.reduceEqDiff, Nat.reduceMul, Nat.reduceAdd, Nat.reduceDiv, Nat.reduceSub, Nat.reduceLT, Nat.reduceLeDiff, Int.reduceLE, Int.reduceLT, Int.reduceToNat, Int.reduceEq]) rfl rfl ?_
    simp only [go_sem, ↓reduceIte, Nat.reduceEqDiff, Nat.reduceMul, Nat.reduceAdd, Nat.reduceDiv, Nat.reduceSub, Nat.reduceLT, Nat.reduceLeDiff, Int.reduceLE, Int.reduceLT, Int.reduceToNat, Int.reduceEq]
    repeat (refine ⟨by (first | omega | (intro h1 h2; exact ⟨h1, h2⟩) | (intro h1; omega) | (intro h1; exact h1) | trivial), ?_⟩)
    refine callK_1 _ (fun _ => cw122 _) (by simp only [go_sem, ↓reduceIte, Nat.reduceEqDiff, Nat.reduceMul, Nat.reduceAdd, Nat.reduceDiv, Nat.reduceSub, Nat.reduceLT, Nat.reduceLeDiff, Int.reduceLE, Int.reduceLT, Int.reduceToNat, Int.reduceEq]) rfl rfl ?_
    simp only [go_sem, ↓reduceIte, Nat.reduceEqDiff, Nat.reduceMul, Nat.reduceAdd, Nat.reduceDiv, Nat.reduceSub, Nat.reduceLT, Nat.reduceLeDiff, Int.reduceLE, Int.reduceLT, Int.reduceToNat, Int.reduceEq]
    repeat (refine ⟨by (first | omega | (intro h1 h2; exact ⟨h1, h2⟩) | (intro h1; omega) | (intro h1; exact h1) | trivial), ?_⟩)
    apply hQ
    all_goals simp only [go_sem, ↓reduceIte, Nat.reduceEqDiff, Nat.reduceMul, Nat.reduceAdd, Nat.reduceDiv, Nat.reduceSub, Nat.reduceLT, Nat.reduceLeDiff, Int.reduceLE, Int.reduceLT, Int.reduceToNat, Int.reduceEq, fitsR, if_pos h12, if_neg h3, if_neg h4, if_neg h5, if_neg h6, if_neg h7, if_neg h8, if_neg h9, if_neg h10, Bool.and_assoc]
  refine ⟨fun h13 => ?_, fun h13 => ?_⟩
  · refine callK_1 _ (fun _ => cw117 _ _ _ _ r) (by simp only [go_sem, ↓reduceIte, Nat.reduceEqDiff, Nat.reduceMul, Nat.reduceAdd, Nat.reduceDiv, Nat.reduceSub, Nat.reduceLT, Nat.reduceLeDiff, Int.reduceLE, Int.reduceLT, Int.reduceToNat, Int.reduceEq]) rfl rfl ?_
    simp only [go_sem, ↓reduceIte, Nat.reduceEqDiff, Nat.reduceMul, Nat.reduceAdd, Nat.reduceDiv, Nat.reduceSub, Nat.reduceLT, Nat.reduceLeDiff, Int.reduceLE, Int.reduceLT, Int.reduceToNat, Int.reduceEq]
    repeat (refine ⟨by (first | omega | (intro h1 h2; exact ⟨h1, h2⟩) | (intro h1; omega) | (intro h1; exact h1) | trivial), ?_⟩)
    refine callK_1 _ (fun _ => cw120 r) (by simp only [go_sem, ↓reduceIte, Nat.reduceEqDiff, Nat.reduceMul, Nat.reduceAdd, Nat.reduceDiv, Nat.reduceSub, Nat.reduceLT, Nat.reduceLeDiff, Int.reduceLE, Int.reduceLT, Int.reduceToNat, Int.reduceEq]) rfl rfl ?_
    simp only [go_sem, ↓reduceIte, Nat.reduceEqDiff, Nat.reduceMul, Nat.reduceAdd, Nat.reduceDiv, Nat.reduceSub, Nat.reduceLT, Nat.reduceLeDiff, Int.reduceLE, Int.reduceLT, Int.reduceToNat, Int.reduceEq]
    repeat (refine ⟨by (first | omega | (intro h1 h2; exact ⟨h1, h2⟩) | (intro h1; omega) | (intro h1; exact h1) | trivial), ?_⟩)
    refine callK_1 _ (fun _ => cw118 r _ _ hn) (by simp only [go_sem, ↓reduceIte, Nat.reduceEqDiff, Nat.reduceMul, Nat.reduceAdd, Nat.reduceDiv, Nat.reduceSub, Nat.reduceLT, Nat.reduceLeDiff, Int.reduceLE, Int.reduceLT, Int.reduceToNat, Int.reduceEq]) rfl rfl ?_
    simp only [go_sem, ↓reduceIte, Nat.reduceEqDiff, Nat.reduceMul, Nat.reduceAdd, Nat.reduceDiv, Nat.reduceSub, Nat.reduceLT, Nat.reduceLeDiff, Int.reduceLE, Int.reduceLT, Int.reduceToNat, Int.reduceEq]
    repeat (refine ⟨by (first | omega | (intro h1 h2; exact ⟨h1, h2⟩) | (intro h1; omega) | (intro h1; exact h1) | trivial), ?_⟩)
    apply hQ
    all_goals simp only [go_sem, ↓reduceIte, Nat.reduceEqDiff, Nat.reduceMul, Nat.reduceAdd, Nat.reduceDiv, Nat.reduceSub, Nat.reduceLT, Nat.reduceLeDiff, Int.reduceLE, Int.reduceLT, Int.reduceToNat, Int.reduceEq, fitsR, if_pos h13, if_neg h3, if_neg h4, if_neg h5, if_neg h6, if_neg h7, if_neg h8, if_neg h9, if_neg h10, if_neg h12, Bool.and_assoc]
  refine ⟨fun h14 => ?_, fun h14 => ?_⟩
  · refine callK_1 _ (fun _ => cw117 _ _ _ _ r) (by simp only [go_sem, ↓reduceIte, Nat.reduceEqDiff, Nat.reduceMul, Nat.reduceAdd, Nat.reduceDiv, Nat.reduceSub, Nat.reduceLT, Nat.reduceLeDiff, Int.reduceLE, Int.reduceLT, Int.reduceToNat, Int.reduceEq]) rfl rfl ?_
    simp only [go_sem, ↓reduceIte, Nat.reduceEqDiff, Nat.reduceMul, Nat.reduceAdd, Nat.reduceDiv, Nat.reduceSub, Nat.reduceLT, Nat.reduceLeDiff, Int.reduceLE, Int.reduceLT, Int.reduceToNat, Int.reduceEq]
    repeat (refine ⟨by (first | omega | (intro h1 h2; exact ⟨h1, h2⟩) | (intro h1; omega) | (intro h1; exact h1) | trivial), ?_⟩)
    refine callK_1 _ (fun _ => cw123 r) (by simp only [go_sem, ↓reduceIte, Nat.reduceEqDiff, Nat.reduceMul, Nat.reduceAdd, Nat.reduceDiv, Nat.reduceSub, Nat.reduceLT, Nat.reduceLeDiff, Int.reduceLE, Int.reduceLT, Int.reduceToNat, Int.reduceEq]) rfl rfl ?_
    simp only [go_sem, ↓reduceIte, Nat.reduceEqDiff, Nat.reduceMul, Nat.reduceAdd, Nat.reduceDiv, Nat.reduceSub, Nat.reduceLT, Nat.reduceLeDiff, Int.reduceLE, Int.reduceLT, Int.reduceToNat, Int.reduceEq]
    repeat (refine ⟨by (first | omega | (intro h1 h2; exact ⟨h1, h2⟩) | (intro h1; omega) | (intro h1; exact h1) | trivial), ?_⟩)
    apply hQ
    all_goals simp only [go_sem, ↓reduceIte, Nat.reduceEqDiff, Nat.reduceMul, Nat.reduceAdd, Nat.reduceDiv, Nat.reduceSub, Nat.reduceLT, Nat.reduceLeDiff, Int.reduceLE, Int.reduceLT, Int.reduceToNat, Int.reduceEq, fitsR, if_pos h14, if_neg h3, if_neg h4, if_neg h5, if_neg h6, if_neg h7, if_neg h8, if_neg h9, if_neg h10, if_neg h12, if_neg h13, Bool.and_assoc]
  refine ⟨fun h15 => ?_, fun h15 => ?_⟩
  · refine callK_1 _ (fun _ => cw117 _ _ _ _ r) (by simp only [go_sem, ↓reduceIte, Nat.reduceEqDiff, Nat.reduceMul, Nat.reduceAdd, Nat.reduceDiv, Nat.reduceSub, Nat.reduceLT, Nat.reduceLeDiff, Int.reduceLE, Int.reduceLT, Int.reduceToNat, Int.reduceEq]) rfl rfl ?_
    simp only [go_sem, ↓reduceIte, Nat.reduceEqDiff, Nat.reduceMul, Nat.reduceAdd, Nat.reduceDiv, Nat.reduceSub, Nat.reduceLT, Nat.reduceLeDiff, Int.reduceLE, Int.reduceLT, Int.reduceToNat, Int.reduceEq]
    repeat (refine ⟨by (first | omega | (intro h1 h2; exact ⟨h1, h2⟩) | (intro h1; omega) | (intro h1; exact h1) | trivial), ?_⟩)
    refine callK_1 _ (fun _ => cw122 _) (by simp only [go_sem, ↓reduceIte, Nat.reduceEqDiff, Nat.reduceMul, Nat.reduceAdd, Nat.reduceDiv, Nat.reduceSub, Nat.reduceLT, Nat.reduceLeDiff, Int.reduceLE, Int.reduceLT, Int.reduceToNat, Int.reduceEq]) rfl rfl ?_
    simp only [go_sem, ↓reduceIte, Nat.reduceEqDiff, Nat.reduceMul, Nat.reduceAdd, Nat.reduceDiv, Nat.reduceSub, Nat.reduceLT, Nat.reduceLeDiff, Int.reduceLE, Int.reduceLT, Int.reduceToNat, Int.reduceEq]
    repeat (refine ⟨by (first | omega | (intro h1 h2; exact ⟨h1, h2⟩) | (intro h1; omega) | (intro h1; exact h1) | trivial), ?_⟩)
    refine callK_1 _ (fun _ => cw122 _) (by simp only [go_sem, ↓reduceIte, Nat.reduceEqDiff, Nat.reduceMul, Nat.reduceAdd, Nat.reduceDiv, Nat.reduceSub, Nat.reduceLT, Nat.reduceLeDiff, Int.reduceLE, Int.reduceLT, Int.reduceToNat, Int.reduceEq]) rfl rfl ?_
    simp only [go_sem, ↓reduceIte, Nat.reduceEqDiff, Nat.reduceMul, Nat.reduceAdd, Nat.reduceDiv, Nat.reduceSub, Nat.reduceLT, Nat.reduceLeDiff, Int.reduceLE, Int.reduceLT, Int.reduceToNat, Int.reduceEq]
    repeat (refine ⟨by (first | omega | (intro h1 h2; exact ⟨h1, h2⟩) | (intro h1; omega) | (intro h1; exact h1) | trivial), ?_⟩)
    refine callK_1 _ (fun _ => cw123 r) (by simp only [go_sem, ↓reduceIte, Nat.reduceEqDiff, Nat.reduceMul, Nat.reduceAdd, Nat.reduceDiv, Nat.reduceSub, Nat.reduceLT, Nat.reduceLeDiff, Int.reduceLE, Int.reduceLT, Int.reduceToNat, Int.reduceEq]) rfl rfl ?_
    simp only [go_sem, ↓reduceIte, Nat.reduceEqDiff, Nat.reduceMul, Nat.reduceAdd, Nat.reduceDiv, Nat.reduceSub, Nat.reduceLT, Nat.reduceLeDiff, Int.reduceLE, Int.reduceLT, Int.reduceToNat, Int.reduceEq]
    repeat (refine ⟨by (first | omega | (intro h1 h2; exact ⟨h1, h2⟩) | (intro h1; omega) | (intro h1; exact h1) | trivial), ?_⟩)
    apply hQ
    all_goals simp only [go_sem, ↓reduceIte, Nat.reduceEqDiff, Nat.reduceMul, Nat.reduceAdd, Nat.reduceDiv, Nat.reduceSub, Nat.reduceLT, Nat.reduceLeDiff, Int.reduceLE, Int.reduceLT, Int.reduceToNat, Int.reduceEq, fitsR, if_pos h15, if_neg h3, if_neg h4, if_neg h5, if_neg h6, if_neg h7, if_neg h8, if_neg h9, if_neg h10, if_neg h12, if_neg h13, if_neg h14, Bool.and_assoc]
  refine callK_1 _ (fun _ => cw117 _ _ _ _ r) (by simp only [go_sem, ↓reduceIte, Nat.reduceEqDiff, Nat.reduceMul, Nat.reduceAdd, Nat.reduceDiv, Nat.reduceSub, Nat.reduceLT, Nat.reduceLeDiff, Int.reduceLE, Int.reduceLT, Int.reduceToNat, Int.reduceEq]) rfl rfl ?_
  simp only [go_sem, ↓reduceIte, Nat.reduceEqDiff, Nat.reduceMul, Nat.reduceAdd, Nat.reduceDiv, Nat.reduceSub, Nat.reduceLT, Nat.reduceLeDiff, Int.reduceLE, Int.reduceLT, Int.reduceToNat, Int.reduceEq]
  repeat (refine ⟨by (first | omega | (intro h1 h2; exact ⟨h1, h2⟩) | (intro h1; omega) | (intro h1; exact h1) | trivial), ?_⟩)
  apply hQ
  all_goals simp only [go_sem, ↓reduceIte, Nat.reduceEqDiff, Nat.reduceMul, Nat.reduceAdd, Nat.reduceDiv, Nat.reduceSub, Nat.reduceLT, Nat.reduceLeDiff, Int.reduceLE, Int.reduceLT, Int.reduceToNat, Int.reduceEq, fitsR, if_neg h3, if_neg h4, if_neg h5, if_neg h6, if_neg h7, if_neg h8, if_neg h9, if_neg h10, if_neg h12, if_neg h13, if_neg h14, if_neg h15]
theorem cw80 (r : Rec) (hn : r.to.length < 9223372036854775808) : CW Try.prog 80 [.cv (Rec.cv r)] ⟨[.cv (.bool (fitsR r))], []⟩ :=
  top80 rfl rfl [] trivial (w80 r hn _ fun σ H h => ret1 rfl h)
def rightR (r : Rec) : Int :=
  if famK r.kind = 0 then 60 else
  if (if r.kind = 15 then r.lo = 0 ∧ r.hi = 0 else 0 ≤ r.lo ∧ r.lo ≤ r.hi ∧ r.hi ≤ 1114111) ∧ fitsR r = true then 0 else 61
theorem w54 (r : Rec) (hn : r.to.length < 9223372036854775808) (Q : Ex → Slots → LH → Prop) (hQ : ∀ σ H, Slots.get σ 2 = .c (.int .i64 (rightR r)) → Q .ret σ H) : rnC Try.prog b54 Q [(0, .c (Rec.cv r))] [] := by
  unfold b54
  simp only [go_sem, ↓reduceIte, Nat.reduceEqDiff, Nat.reduceMul, Nat.reduceAdd, Nat.reduceDiv, Nat.reduceSub, Nat.reduceLT, Nat.reduceLeDiff, Int.reduceLE, Int.reduceLT, Int.reduceToNat, Int.reduceEq]
  repeat (refine ⟨by (first | omega | (intro h1 h2; exact ⟨h1, h2⟩) | (intro h1; omega) | (intro h1; exact h1) | trivial), ?_⟩)
  refine callK_1 _ (fun _ => cw28 _) (by simp only [go_sem, ↓reduceIte, Nat.reduceEqDiff, Nat.reduceMul, Nat.reduceAdd, Nat.reduceDiv, Nat.reduceSub, Nat.reduceLT, Nat.reduceLeDiff, Int.reduceLE, Int.reduceLT, Int.reduceToNat, Int.reduceEq]) rfl rfl ?_
  simp only [go_sem, ↓reduceIte, Nat.reduceEqDiff, Nat.reduceMul, Nat.reduceAdd, Nat.reduceDiv, Nat.reduceSub, Nat.reduceLT, Nat.reduceLeDiff, Int.reduceLE, Int.reduceLT, Int.reduceToNat, Int.reduceEq]
  repeat (refine ⟨by (first | omega | (intro h1 h2; exact ⟨h1, h2⟩) | (intro h1; omega) | (intro h1; exact h1) | trivial), ?_⟩)
  refine ⟨fun h => ?_, fun h => ?_⟩
  · apply hQ
    all_goals simp only [go_sem, ↓reduceIte, Nat.reduceEqDiff, Nat.reduceMul, Nat.reduceAdd, Nat.reduceDiv, Nat.reduceSub, Nat.reduceLT, Nat.reduceLeDiff, Int.reduceLE, Int.reduceLT, Int.reduceToNat, Int.reduceEq, rightR, if_pos h]
  repeat (refine ⟨by (first | omega | (intro h1 h2; exact ⟨h1, h2⟩) | (intro h1; omega) | (intro h1; exact h1) | trivial), ?_⟩)
  refine ⟨fun h15 => ?_, fun h15 => ?_⟩
  all_goals
    repeat (refine ⟨by (first | omega | (intro h1 h2; exact ⟨h1, h2⟩) | (intro h1; omega) | (intro h1; exact h1) | trivial), ?_⟩)
    refine callK_1 _ (fun _ => cw80 r hn) (by simp only [go_sem, ↓reduceIte, Nat.reduceEqDiff, Nat.reduceMul, Nat.reduceAdd, Nat.reduceDiv, Nat.reduceSub, Nat.reduceLT, Nat.reduceLeDiff, Int.reduceLE, Int.reduceLT, Int.reduceToNat, Int.reduceEq]) rfl rfl ?_
    simp only [go_sem, ↓reduceIte, Nat.reduceEqDiff, Nat.reduceMul, Nat.reduceAdd, Nat.reduceDiv, Nat.reduceSub, Nat.reduceLT, Nat.reduceLeDiff, Int.reduceLE, Int.reduceLT, Int.reduceToNat, Int.reduceEq]
    repeat (refine ⟨by (first | omega | (intro h1 h2; exact ⟨h1, h2⟩) | (intro h1; omega) | (intro h1; exact h1) | trivial), ?_⟩)
    refine ⟨fun hh => ?_, fun hh => ?_⟩
    all_goals
      apply hQ
      all_goals simp only [go_sem, ↓reduceIte, Nat.reduceEqDiff, Nat.reduceMul, Nat.reduceAdd, Nat.reduceDiv, Nat.reduceSub, Nat.reduceLT, Nat.reduceLeDiff, Int.reduceLE, Int.reduceLT, Int.reduceToNat, Int.reduceEq, rightR, if_neg h]
      simp only [h15, if_true, if_false]
      first
        | rw [if_pos (by first | exact hh | (exact ⟨⟨hh.1.1.1, hh.1.1.2, hh.1.2⟩, hh.2⟩))]
        | rw [if_neg (fun h' => by
            obtain ⟨h1, h2⟩ := h'
            rcases hh with hh | hh
            · omega
            · rw [h2] at hh; cases hh)]
theorem cw54 (r : Rec) (hn : r.to.length < 9223372036854775808) : CW Try.prog 54 [.cv (Rec.cv r)] ⟨[.cv (.int .i64 (rightR r))], []⟩ :=
  top54 rfl rfl [] trivial (w54 r hn _ fun σ H h => ret1 rfl h)
def meetC (b : Rec) (hi n : Int) : Nat → Int → Bool
  | 0, _ => false
  | k + 1, c => if hi < c then false else if speaksR b c = true then true else meetC b hi n k (IntKind.i64.wrap (c + n))
def meetS (a b : Rec) : Int := IntKind.i64.wrap (a.lo + IntKind.i64.wrap (IntKind.i64.wrap ((IntKind.i64.wrap (IntKind.i64.wrap (IntKind.i64.wrap ((if a.lo < b.lo then b.lo else a.lo) - a.lo) + a.n) - 1)).tdiv a.n) * a.n))
def meetO (a b : Rec) : Bool :=
  if ¬a.kind = 4 ∨ (if b.hi < a.hi then b.hi else a.hi) < (if a.lo < b.lo then b.lo else a.lo) then decide ((if a.lo < b.lo then b.lo else a.lo) ≤ (if b.hi < a.hi then b.hi else a.hi)) else
  meetC b (if b.hi < a.hi then b.hi else a.hi) a.n 64 (meetS a b)
def meetR (a b : Rec) : Bool := if a.kind = 4 then meetO a b else meetO b a
theorem w55 (a b : Rec) (ha : a.ok) (hb : b.ok) (ha4 : a.kind = 4 → 1 ≤ a.n) (hb4 : b.kind = 4 → 1 ≤ b.n) (Q : Ex → Slots → LH → Prop) (hQ : ∀ σ H, Slots.get σ 4 = .c (.bool (meetR a b)) → Q .ret σ H) : rnC Try.prog b55 Q [(0, .c (Rec.cv a)), (1, .c (Rec.cv b))] [] := by
  unfold b55
  simp only [go_sem, ↓reduceIte, Nat.reduceEqDiff, Nat.reduceMul, Nat.reduceAdd, Nat.reduceDiv, Nat.reduceSub, Nat.reduceLT, Nat.reduceLeDiff, Int.reduceLE, Int.reduceLT, Int.reduceToNat, Int.reduceEq]
  repeat (refine ⟨by (first | omega | (intro h1 h2; exact ⟨h1, h2⟩) | (intro h1; omega) | (intro h1; exact h1) | trivial), ?_⟩)
  refine ⟨fun h4 => ?_, fun h4 => ?_⟩
  · have e4 : meetR a b = meetO b a := by unfold meetR; simp [h4]
    rw [e4] at hQ
    refine ⟨fun h => ?_, fun h => ?_⟩
    · apply hQ
      all_goals simp only [go_sem, ↓reduceIte, Nat.reduceEqDiff, Nat.reduceMul, Nat.reduceAdd, Nat.reduceDiv, Nat.reduceSub, Nat.reduceLT, Nat.reduceLeDiff, Int.reduceLE, Int.reduceLT, Int.reduceToNat, Int.reduceEq, meetO, if_pos h]
    refine ⟨by have := hb4 h.1; omega, ?_⟩
    refine loopZR.by (α := Nat × Int) (fun p => [(2, .ref 64 0), (3, .ref 128 0), (6, .c (.int .i64 (if a.hi < b.hi then a.hi else b.hi))), (7, .c (.int .i64 p.2)), (51, .c (.int .i64 p.1))]) (fun _ => [(64, .obj [.c (.int .i64 b.kind), .c (.int .i64 b.lo), .c (.int .i64 b.hi), .c (.int .i64 b.n), .c (.sl 1 (runes b.to)), .c (.str b.name), .c (.str b.other), .c (.flt b.weight)]), (128, .obj [.c (.int .i64 a.kind), .c (.int .i64 a.lo), .c (.int .i64 a.hi), .c (.int .i64 a.n), .c (.sl 1 (runes a.to)), .c (.str a.name), .c (.str a.other), .c (.flt a.weight)])])
      (fun p => 64 - p.1) (fun p => p.1 ≤ 64 ∧ meetC a (if a.hi < b.hi then a.hi else b.hi) b.n (64 - p.1) p.2 = meetO b a) (0, meetS b a) ⟨Nat.zero_le _, ?_⟩ ?_ ?_
    rotate_left
    · intro Y hY
      simp only [go_sem, ↓reduceIte, Nat.reduceEqDiff, Nat.reduceMul, Nat.reduceAdd, Nat.reduceDiv, Nat.reduceSub, Nat.reduceLT, Nat.reduceLeDiff, Int.reduceLE, Int.reduceLT, Int.reduceToNat, Int.reduceEq]
      exact hY
    · intro p hk Y hY
      obtain ⟨i, c⟩ := p
      obtain ⟨hk1, hk2⟩ := hk
      simp only at hk1 hk2
      unfold l55_0
      simp only [go_sem, ↓reduceIte, Nat.reduceEqDiff, Nat.reduceMul, Nat.reduceAdd, Nat.reduceDiv, Nat.reduceSub, Nat.reduceLT, Nat.reduceLeDiff, Int.reduceLE, Int.reduceLT, Int.reduceToNat, Int.reduceEq]
      refine ⟨fun hi => ?_, fun hi => hQ _ _ ?_⟩
      · have e : 64 - i = (64 - (i + 1)) + 1 := by omega
        rw [e, meetC] at hk2
        refine ⟨fun h1 => hQ _ _ ?_, fun h1 => ?_⟩
        · simp only [go_sem, ↓reduceIte, Nat.reduceEqDiff, Nat.reduceMul, Nat.reduceAdd, Nat.reduceDiv, Nat.reduceSub, Nat.reduceLT, Nat.reduceLeDiff, Int.reduceLE, Int.reduceLT, Int.reduceToNat, Int.reduceEq]
          rw [← hk2, if_pos h1]
        rw [if_neg (by omega)] at hk2
        refine callK_1 _ (fun _ => cw66 a _ ha) (by simp only [go_sem, ↓reduceIte, Nat.reduceEqDiff, Nat.reduceMul, Nat.reduceAdd, Nat.reduceDiv, Nat.reduceSub, Nat.reduceLT, Nat.reduceLeDiff, Int.reduceLE, Int.reduceLT, Int.reduceToNat, Int.reduceEq]) rfl rfl ?_
        simp only [go_sem, ↓reduceIte, Nat.reduceEqDiff, Nat.reduceMul, Nat.reduceAdd, Nat.reduceDiv, Nat.reduceSub, Nat.reduceLT, Nat.reduceLeDiff, Int.reduceLE, Int.reduceLT, Int.reduceToNat, Int.reduceEq]
        repeat (refine ⟨by (first | omega | (intro h1 h2; exact ⟨h1, h2⟩) | (intro h1; omega) | (intro h1; exact h1) | trivial), ?_⟩)
        refine ⟨fun h2 => hQ _ _ ?_, fun h2 => ?_⟩
        · simp only [go_sem, ↓reduceIte, Nat.reduceEqDiff, Nat.reduceMul, Nat.reduceAdd, Nat.reduceDiv, Nat.reduceSub, Nat.reduceLT, Nat.reduceLeDiff, Int.reduceLE, Int.reduceLT, Int.reduceToNat, Int.reduceEq]
          rw [← hk2, if_pos h2]
        · rw [if_neg (by rw [h2]; simp)] at hk2
          rw [succ64 (show i < 64 by omega) (by omega)]
          exact hY (i + 1, _) ⟨by simp only; omega, hk2⟩ (by simp only; omega)
      · have e : 64 - i = 0 := by omega
        rw [e, meetC] at hk2
        simp only [go_sem, ↓reduceIte, Nat.reduceEqDiff, Nat.reduceMul, Nat.reduceAdd, Nat.reduceDiv, Nat.reduceSub, Nat.reduceLT, Nat.reduceLeDiff, Int.reduceLE, Int.reduceLT, Int.reduceToNat, Int.reduceEq]
        rw [← hk2]
    · refine Eq.symm (if_neg ?_)
      rintro (h1 | h1)
      · exact h1 h.1
      · have := h.2; omega
  · have e4 : meetR a b = meetO a b := by unfold meetR; simp [h4]
    rw [e4] at hQ
    refine ⟨fun h => ?_, fun h => ?_⟩
    · apply hQ
      all_goals simp only [go_sem, ↓reduceIte, Nat.reduceEqDiff, Nat.reduceMul, Nat.reduceAdd, Nat.reduceDiv, Nat.reduceSub, Nat.reduceLT, Nat.reduceLeDiff, Int.reduceLE, Int.reduceLT, Int.reduceToNat, Int.reduceEq, meetO, if_pos h]
    refine ⟨by have := ha4 h.1; omega, ?_⟩
    refine loopZR.by (α := Nat × Int) (fun p => [(2, .ref 64 0), (3, .ref 128 0), (6, .c (.int .i64 (if b.hi < a.hi then b.hi else a.hi))), (7, .c (.int .i64 p.2)), (51, .c (.int .i64 p.1))]) (fun _ => [(64, .obj [.c (.int .i64 a.kind), .c (.int .i64 a.lo), .c (.int .i64 a.hi), .c (.int .i64 a.n), .c (.sl 1 (runes a.to)), .c (.str a.name), .c (.str a.other), .c (.flt a.weight)]), (128, .obj [.c (.int .i64 b.kind), .c (.int .i64 b.lo), .c (.int .i64 b.hi), .c (.int .i64 b.n), .c (.sl 1 (runes b.to)), .c (.str b.name), .c (.str b.other), .c (.flt b.weight)])])
      (fun p => 64 - p.1) (fun p => p.1 ≤ 64 ∧ meetC b (if b.hi < a.hi then b.hi else a.hi) a.n (64 - p.1) p.2 = meetO a b) (0, meetS a b) ⟨Nat.zero_le _, ?_⟩ ?_ ?_
    rotate_left
    · intro Y hY
      simp only [go_sem, ↓reduceIte, Nat.reduceEqDiff, Nat.reduceMul, Nat.reduceAdd, Nat.reduceDiv, Nat.reduceSub, Nat.reduceLT, Nat.reduceLeDiff, Int.reduceLE, Int.reduceLT, Int.reduceToNat, Int.reduceEq]
      exact hY
    · intro p hk Y hY
      obtain ⟨i, c⟩ := p
      obtain ⟨hk1, hk2⟩ := hk
      simp only at hk1 hk2
      unfold l55_0
      simp only [go_sem, ↓reduceIte, Nat.reduceEqDiff, Nat.reduceMul, Nat.reduceAdd, Nat.reduceDiv, Nat.reduceSub, Nat.reduceLT, Nat.reduceLeDiff, Int.reduceLE, Int.reduceLT, Int.reduceToNat, Int.reduceEq]
      refine ⟨fun hi => ?_, fun hi => hQ _ _ ?_⟩
      · have e : 64 - i = (64 - (i + 1)) + 1 := by omega
        rw [e, meetC] at hk2
        refine ⟨fun h1 => hQ _ _ ?_, fun h1 => ?_⟩
        · simp only [go_sem, ↓reduceIte, Nat.reduceEqDiff, Nat.reduceMul, Nat.reduceAdd, Nat.reduceDiv, Nat.reduceSub, Nat.reduceLT, Nat.reduceLeDiff, Int.reduceLE, Int.reduceLT, Int.reduceToNat, Int.reduceEq]
          rw [← hk2, if_pos h1]
        rw [if_neg (by omega)] at hk2
        refine callK_1 _ (fun _ => cw66 b _ hb) (by simp only [go_sem, ↓reduceIte, Nat.reduceEqDiff, Nat.reduceMul, Nat.reduceAdd, Nat.reduceDiv, Nat.reduceSub, Nat.reduceLT, Nat.reduceLeDiff, Int.reduceLE, Int.reduceLT, Int.reduceToNat, Int.reduceEq]) rfl rfl ?_
        simp only [go_sem, ↓reduceIte, Nat.reduceEqDiff, Nat.reduceMul, Nat.reduceAdd, Nat.reduceDiv, Nat.reduceSub, Nat.reduceLT, Nat.reduceLeDiff, Int.reduceLE, Int.reduceLT, Int.reduceToNat, Int.reduceEq]
        repeat (refine ⟨by (first | omega | (intro h1 h2; exact ⟨h1, h2⟩) | (intro h1; omega) | (intro h1; exact h1) | trivial), ?_⟩)
        refine ⟨fun h2 => hQ _ _ ?_, fun h2 => ?_⟩
        · simp only [go_sem, ↓reduceIte, Nat.reduceEqDiff, Nat.reduceMul, Nat.reduceAdd, Nat.reduceDiv, Nat.reduceSub, Nat.reduceLT, Nat.reduceLeDiff, Int.reduceLE, Int.reduceLT, Int.reduceToNat, Int.reduceEq]
          rw [← hk2, if_pos h2]
        · rw [if_neg (by rw [h2]; simp)] at hk2
          rw [succ64 (show i < 64 by omega) (by omega)]
          exact hY (i + 1, _) ⟨by simp only; omega, hk2⟩ (by simp only; omega)
      · have e : 64 - i = 0 := by omega
        rw [e, meetC] at hk2
        simp only [go_sem, ↓reduceIte, Nat.reduceEqDiff, Nat.reduceMul, Nat.reduceAdd, Nat.reduceDiv, Nat.reduceSub, Nat.reduceLT, Nat.reduceLeDiff, Int.reduceLE, Int.reduceLT, Int.reduceToNat, Int.reduceEq]
        rw [← hk2]
    · refine Eq.symm (if_neg ?_)
      rintro (h1 | h1)
      · exact h1 h.1
      · have := h.2; omega
theorem cw55 (a b : Rec) (ha : a.ok) (hb : b.ok) (ha4 : a.kind = 4 → 1 ≤ a.n) (hb4 : b.kind = 4 → 1 ≤ b.n) : CW Try.prog 55 [.cv (Rec.cv a), .cv (Rec.cv b)] ⟨[.cv (.bool (meetR a b))], []⟩ :=
  top55 rfl rfl [] trivial (w55 a b ha hb ha4 hb4 _ fun σ H h => ret1 rfl h)
def b72 : IC := (.seq (.reg [⟨(some 1), 1, none, .box (.t 0)⟩,
  ⟨(some 2), 0, none, .mv (.c (.int .i64 0))⟩]) (.seq (.seq (.reg [⟨(some 7), 0, none, .fa (.t 1) 0⟩,
  ⟨(some 8), 0, none, .ld (.t 7) none⟩,
  ⟨(some 9), 2, none, .call (.c (.fn 67)) [((.t 8), .plain)]⟩,
  ⟨(some 10), 0, none, .bin .eql (.t 9) (.c (.int .i64 0))⟩]) (.cond (.t 10) (.seq (.reg [⟨(some 2), 0, none, .mv (.c (.int .i64 60))⟩]) .ret) .skip)) (.seq (.seq (.reg [⟨(some 11), 0, none, .fa (.t 1) 0⟩,
  ⟨(some 12), 0, none, .ld (.t 11) none⟩,
  ⟨(some 13), 0, none, .bin .eql (.t 12) (.c (.int .i64 15))⟩]) (.cond (.t 13) (.seq (.seq (.reg [⟨(some 14), 0, none, .fa (.t 1) 1⟩,
  ⟨(some 15), 0, none, .ld (.t 14) none⟩,
  ⟨(some 16), 0, none, .bin .eql (.t 15) (.c (.int .i64 0))⟩,
  ⟨(some 17), 0, none, .mv (.t 16)⟩,
  ⟨(some 18), 0, (some (17, true)), .fa (.t 1) 2⟩,
  ⟨(some 19), 0, (some (17, true)), .ld (.t 18) none⟩,
  ⟨(some 20), 0, (some (17, true)), .bin .eql (.t 19) (.c (.int .i64 0))⟩,
  ⟨(some 21), 0, none, .pick (.t 17) (.t 20) (.c (.bool false))⟩,
  ⟨(some 22), 0, none, .mv (.t 21)⟩,
  ⟨(some 23), 0, (some (22, true)), .ld (.t 1) (some 8)⟩,
  ⟨(some 24), 12, (some (22, true)), .call (.c (.fn 112)) [((.t 23), .plain), ((.c (.bool false)), .plain), ((.c (.bool false)), .plain), ((.c (.bool true)), .plain), ((.c (.bool true)), .plain), ((.c (.bool true)), .plain)]⟩,
  ⟨(some 25), 0, none, .pick (.t 22) (.t 24) (.c (.bool false))⟩,
  ⟨(some 26), 0, none, .mv (.t 25)⟩,
  ⟨(some 27), 0, (some (26, true)), .fa (.t 1) 5⟩,
  ⟨(some 28), 0, (some (26, true)), .ld (.t 27) none⟩,
  ⟨(some 29), 22, (some (26, true)), .call (.c (.fn 113)) [((.t 28), .plain)]⟩,
  ⟨(some 30), 0, none, .pick (.t 26) (.t 29) (.c (.bool false))⟩,
  ⟨(some 31), 0, none, .mv (.t 30)⟩,
  ⟨(some 32), 0, (some (31, true)), .fa (.t 1) 6⟩,
  ⟨(some 33), 0, (some (31, true)), .ld (.t 32) none⟩,
  ⟨(some 34), 32, (some (31, true)), .call (.c (.fn 113)) [((.t 33), .plain)]⟩,
  ⟨(some 35), 0, none, .pick (.t 31) (.t 34) (.c (.bool false))⟩,
  ⟨(some 36), 0, none, .mv (.t 35)⟩,
  ⟨(some 37), 0, (some (36, true)), .fa (.t 1) 5⟩,
  ⟨(some 38), 0, (some (36, true)), .ld (.t 37) none⟩,
  ⟨(some 39), 0, (some (36, true)), .fa (.t 1) 6⟩,
  ⟨(some 40), 0, (some (36, true)), .ld (.t 39) none⟩,
  ⟨(some 41), 0, (some (36, true)), .bin .neq (.t 38) (.t 40)⟩,
  ⟨(some 42), 0, none, .pick (.t 36) (.t 41) (.c (.bool false))⟩,
  ⟨(some 43), 0, none, .mv (.t 42)⟩,
  ⟨(some 44), 0, (some (43, true)), .fa (.t 1) 7⟩,
  ⟨(some 45), 0, (some (43, true)), .ld (.t 44) none⟩,
  ⟨(some 46), 42, (some (43, true)), .call (.c (.fn 114)) [((.t 45), .plain)]⟩,
  ⟨(some 47), 0, none, .pick (.t 43) (.t 46) (.c (.bool false))⟩]) (.cond (.t 47) (.seq (.reg [⟨(some 2), 0, none, .mv (.c (.int .i64 0))⟩]) .ret) .skip)) (.seq (.reg [⟨(some 2), 0, none, .mv (.c (.int .i64 61))⟩]) .ret)) .skip)) (.seq (.reg [⟨(some 48), 0, none, .fa (.t 1) 1⟩,
  ⟨(some 49), 0, none, .ld (.t 48) none⟩,
  ⟨(some 50), 0, none, .bin .geq (.t 49) (.c (.int .i64 0))⟩,
  ⟨(some 51), 0, none, .mv (.t 50)⟩,
  ⟨(some 52), 0, (some (51, true)), .fa (.t 1) 1⟩,
  ⟨(some 53), 0, (some (51, true)), .ld (.t 52) none⟩,
  ⟨(some 54), 0, (some (51, true)), .fa (.t 1) 2⟩,
  ⟨(some 55), 0, (some (51, true)), .ld (.t 54) none⟩,
  ⟨(some 56), 0, (some (51, true)), .bin .leq (.t 53) (.t 55)⟩,
  ⟨(some 57), 0, none, .pick (.t 51) (.t 56) (.c (.bool false))⟩,
  ⟨(some 58), 0, none, .mv (.t 57)⟩,
  ⟨(some 59), 0, (some (58, true)), .fa (.t 1) 2⟩,
  ⟨(some 60), 0, (some (58, true)), .ld (.t 59) none⟩,
  ⟨(some 61), 0, (some (58, true)), .bin .leq (.t 60) (.c (.int .i64 1114111))⟩,
  ⟨(some 62), 0, none, .pick (.t 58) (.t 61) (.c (.bool false))⟩,
  ⟨(some 3), 0, none, .mv (.t 62)⟩]) (.seq (.reg [⟨(some 63), 0, none, .fa (.t 1) 1⟩,
  ⟨(some 64), 0, none, .ld (.t 63) none⟩,
  ⟨(some 65), 0, none, .fa (.t 1) 2⟩,
  ⟨(some 66), 0, none, .ld (.t 65) none⟩,
  ⟨(some 67), 0, none, .bin .eql (.t 64) (.t 66)⟩,
  ⟨(some 68), 0, none, .mv (.t 67)⟩,
  ⟨(some 69), 0, (some (68, true)), .fa (.t 1) 1⟩,
  ⟨(some 70), 0, (some (68, true)), .ld (.t 69) none⟩,
  ⟨(some 71), 0, (some (68, true)), .bin .and (.t 70) (.c (.int .i64 2097151))⟩,
  ⟨(some 72), 0, (some (68, true)), .conv .i32 (.t 71)⟩,
  ⟨(some 73), 52, (some (68, true)), .call (.c (.fn 115)) [((.t 72), .plain)]⟩,
  ⟨(some 74), 0, none, .pick (.t 68) (.t 73) (.c (.bool false))⟩,
  ⟨(some 4), 0, none, .mv (.t 74)⟩]) (.seq (.seq (.reg [⟨(some 75), 0, none, .fa (.t 1) 0⟩,
  ⟨(some 76), 0, none, .ld (.t 75) none⟩]) (.block 0 (.seq (.seq (.reg [⟨(some 88), 0, none, .bin .eql (.t 76) (.c (.int .i64 1))⟩,
  ⟨(some 87), 0, none, .mv (.t 88)⟩]) (.cond (.t 87) .skip (.seq (.reg [⟨(some 89), 0, none, .bin .eql (.t 76) (.c (.int .i64 2))⟩,
  ⟨(some 87), 0, none, .mv (.t 89)⟩]) (.cond (.t 87) .skip (.reg [⟨(some 90), 0, none, .bin .eql (.t 76) (.c (.int .i64 11))⟩,
  ⟨(some 87), 0, none, .mv (.t 90)⟩]))))) (.cond (.t 87) (.reg [⟨(some 91), 0, none, .mv (.t 3)⟩,
  ⟨(some 92), 0, none, .mv (.t 91)⟩,
  ⟨(some 93), 0, (some (92, true)), .ld (.t 1) (some 8)⟩,
  ⟨(some 94), 62, (some (92, true)), .call (.c (.fn 112)) [((.t 93), .plain), ((.c (.bool false)), .plain), ((.c (.bool false)), .plain), ((.c (.bool false)), .plain), ((.c (.bool false)), .plain), ((.c (.bool false)), .plain)]⟩,
  ⟨(some 95), 0, none, .pick (.t 92) (.t 94) (.c (.bool false))⟩,
  ⟨(some 3), 0, none, .mv (.t 95)⟩]) (.seq (.reg [⟨(some 97), 0, none, .bin .eql (.t 76) (.c (.int .i64 3))⟩,
  ⟨(some 96), 0, none, .mv (.t 97)⟩]) (.cond (.t 96) (.reg [⟨(some 98), 0, none, .mv (.t 3)⟩,
  ⟨(some 99), 0, none, .mv (.t 98)⟩,
  ⟨(some 100), 0, (some (99, true)), .ld (.t 1) (some 8)⟩,
  ⟨(some 101), 72, (some (99, true)), .call (.c (.fn 112)) [((.t 100), .plain), ((.c (.bool false)), .plain), ((.c (.bool true)), .plain), ((.c (.bool false)), .plain), ((.c (.bool false)), .plain), ((.c (.bool false)), .plain)]⟩,
  ⟨(some 102), 0, none, .pick (.t 99) (.t 101) (.c (.bool false))⟩,
  ⟨(some 103), 0, none, .mv (.t 102)⟩,
  ⟨(some 104), 0, (some (103, true)), .fa (.t 1) 4⟩,
  ⟨(some 105), 0, (some (103, true)), .ld (.t 104) none⟩,
  ⟨(some 106), 82, (some (103, true)), .call (.c (.fn 116)) [((.t 105), .view 1), ((.c (.int .i64 1)), .plain), ((.c (.int .i64 24)), .plain)]⟩,
  ⟨(some 107), 0, none, .pick (.t 103) (.t 106) (.c (.bool false))⟩,
  ⟨(some 3), 0, none, .mv (.t 107)⟩]) (.seq (.reg [⟨(some 109), 0, none, .bin .eql (.t 76) (.c (.int .i64 4))⟩,
  ⟨(some 108), 0, none, .mv (.t 109)⟩]) (.cond (.t 108) (.seq (.reg [⟨(some 110), 0, none, .mv (.t 3)⟩,
  ⟨(some 111), 0, none, .mv (.t 110)⟩,
  ⟨(some 112), 0, (some (111, true)), .ld (.t 1) (some 8)⟩,
  ⟨(some 113), 92, (some (111, true)), .call (.c (.fn 112)) [((.t 112), .plain), ((.c (.bool true)), .plain), ((.c (.bool true)), .plain), ((.c (.bool false)), .plain), ((.c (.bool false)), .plain), ((.c (.bool false)), .plain)]⟩,
  ⟨(some 114), 0, none, .pick (.t 111) (.t 113) (.c (.bool false))⟩,
  ⟨(some 115), 0, none, .mv (.t 114)⟩,
  ⟨(some 116), 0, (some (115, true)), .fa (.t 1) 3⟩,
  ⟨(some 117), 0, (some (115, true)), .ld (.t 116) none⟩,
  ⟨(some 118), 0, (some (115, true)), .bin .geq (.t 117) (.c (.int .i64 1))⟩,
  ⟨(some 119), 0, none, .pick (.t 115) (.t 118) (.c (.bool false))⟩,
  ⟨(some 120), 0, none, .mv (.t 119)⟩,
  ⟨(some 121), 0, (some (120, true)), .fa (.t 1) 3⟩,
  ⟨(some 122), 0, (some (120, true)), .ld (.t 121) none⟩,
  ⟨(some 123), 0, (some (120, true)), .bin .leq (.t 122) (.c (.int .i64 64))⟩,
  ⟨(some 124), 0, none, .pick (.t 120) (.t 123) (.c (.bool false))⟩,
  ⟨(some 125), 0, none, .mv (.t 124)⟩,
  ⟨(some 126), 0, (some (125, true)), .fa (.t 1) 4⟩,
  ⟨(some 127), 0, (some (125, true)), .ld (.t 126) none⟩,
  ⟨(some 128), 102, (some (125, true)), .call (.c (.fn 116)) [((.t 127), .view 1), ((.c (.int .i64 1)), .plain), ((.c (.int .i64 1)), .plain)]⟩,
  ⟨(some 129), 0, none, .pick (.t 125) (.t 128) (.c (.bool false))⟩,
  ⟨(some 3), 0, none, .mv (.t 129)⟩]) (.seq (.reg [⟨(some 130), 0, none, .mv (.t 3)⟩]) (.cond (.t 130) (.seq (.reg [⟨(some 131), 0, none, .fa (.t 1) 4⟩,
  ⟨(some 132), 0, none, .ld (.t 131) none⟩,
  ⟨(some 133), 0, none, .ia (.t 132) (.c (.int .i64 0)) 1⟩,
  ⟨(some 134), 0, none, .ld (.t 133) none⟩,
  ⟨(some 135), 0, none, .conv .i64 (.t 134)⟩,
  ⟨(some 5), 0, none, .mv (.t 135)⟩]) (.seq (.reg [⟨(some 136), 0, none, .mv (.t 5)⟩,
  ⟨(some 137), 0, none, .fa (.t 1) 2⟩,
  ⟨(some 138), 0, none, .ld (.t 137) none⟩,
  ⟨(some 139), 0, none, .bin .add (.t 136) (.t 138)⟩,
  ⟨(some 140), 0, none, .fa (.t 1) 1⟩,
  ⟨(some 141), 0, none, .ld (.t 140) none⟩,
  ⟨(some 142), 0, none, .bin .sub (.t 139) (.t 141)⟩,
  ⟨(some 6), 0, none, .mv (.t 142)⟩]) (.reg [⟨(some 143), 0, none, .mv (.t 6)⟩,
  ⟨(some 144), 0, none, .bin .leq (.t 143) (.c (.int .i64 1114111))⟩,
  ⟨(some 145), 0, none, .mv (.t 144)⟩,
  ⟨(some 146), 0, (some (145, true)), .mv (.t 6)⟩,
  ⟨(some 147), 0, (some (145, true)), .bin .lss (.t 146) (.c (.int .i64 55296))⟩,
  ⟨(some 148), 0, (some (145, true)), .mv (.t 147)⟩,
  ⟨(some 149), 0, (some (148, false)), .mv (.t 5)⟩,
  ⟨(some 150), 0, (some (148, false)), .bin .gtr (.t 149) (.c (.int .i64 57343))⟩,
  ⟨(some 151), 0, (some (145, true)), .pick (.t 148) (.c (.bool true)) (.t 150)⟩,
  ⟨(some 152), 0, none, .pick (.t 145) (.t 151) (.c (.bool false))⟩,
  ⟨(some 3), 0, none, .mv (.t 152)⟩]))) .skip))) (.seq (.reg [⟨(some 154), 0, none, .bin .eql (.t 76) (.c (.int .i64 5))⟩,
  ⟨(some 153), 0, none, .mv (.t 154)⟩]) (.cond (.t 153) (.reg [⟨(some 155), 0, none, .mv (.t 3)⟩,
  ⟨(some 156), 0, none, .mv (.t 155)⟩,
  ⟨(some 157), 0, (some (156, true)), .mv (.t 4)⟩,
  ⟨(some 158), 0, none, .pick (.t 156) (.t 157) (.c (.bool false))⟩,
  ⟨(some 159), 0, none, .mv (.t 158)⟩,
  ⟨(some 160), 0, (some (159, true)), .ld (.t 1) (some 8)⟩,
  ⟨(some 161), 112, (some (159, true)), .call (.c (.fn 112)) [((.t 160), .plain), ((.c (.bool false)), .plain), ((.c (.bool true)), .plain), ((.c (.bool false)), .plain), ((.c (.bool false)), .plain), ((.c (.bool false)), .plain)]⟩,
  ⟨(some 162), 0, none, .pick (.t 159) (.t 161) (.c (.bool false))⟩,
  ⟨(some 163), 0, none, .mv (.t 162)⟩,
  ⟨(some 164), 0, (some (163, true)), .fa (.t 1) 4⟩,
  ⟨(some 165), 0, (some (163, true)), .ld (.t 164) none⟩,
  ⟨(some 166), 122, (some (163, true)), .call (.c (.fn 116)) [((.t 165), .view 1), ((.c (.int .i64 0)), .plain), ((.c (.int .i64 24)), .plain)]⟩,
  ⟨(some 167), 0, none, .pick (.t 163) (.t 166) (.c (.bool false))⟩,
  ⟨(some 3), 0, none, .mv (.t 167)⟩]) (.seq (.reg [⟨(some 169), 0, none, .bin .eql (.t 76) (.c (.int .i64 13))⟩,
  ⟨(some 168), 0, none, .mv (.t 169)⟩]) (.cond (.t 168) (.reg [⟨(some 170), 0, none, .mv (.t 3)⟩,
  ⟨(some 171), 0, none, .mv (.t 170)⟩,
  ⟨(some 172), 0, (some (171, true)), .mv (.t 4)⟩,
  ⟨(some 173), 0, none, .pick (.t 171) (.t 172) (.c (.bool false))⟩,
  ⟨(some 174), 0, none, .mv (.t 173)⟩,
  ⟨(some 175), 0, (some (174, true)), .ld (.t 1) (some 8)⟩,
  ⟨(some 176), 132, (some (174, true)), .call (.c (.fn 112)) [((.t 175), .plain), ((.c (.bool false)), .plain), ((.c (.bool true)), .plain), ((.c (.bool false)), .plain), ((.c (.bool false)), .plain), ((.c (.bool false)), .plain)]⟩,
  ⟨(some 177), 0, none, .pick (.t 174) (.t 176) (.c (.bool false))⟩,
  ⟨(some 178), 0, none, .mv (.t 177)⟩,
  ⟨(some 179), 0, (some (178, true)), .fa (.t 1) 4⟩,
  ⟨(some 180), 0, (some (178, true)), .ld (.t 179) none⟩,
  ⟨(some 181), 142, (some (178, true)), .call (.c (.fn 116)) [((.t 180), .view 1), ((.c (.int .i64 1)), .plain), ((.c (.int .i64 24)), .plain)]⟩,
  ⟨(some 182), 0, none, .pick (.t 178) (.t 181) (.c (.bool false))⟩,
  ⟨(some 3), 0, none, .mv (.t 182)⟩]) (.seq (.reg [⟨(some 184), 0, none, .bin .eql (.t 76) (.c (.int .i64 6))⟩,
  ⟨(some 183), 0, none, .mv (.t 184)⟩]) (.cond (.t 183) (.reg [⟨(some 185), 0, none, .mv (.t 3)⟩,
  ⟨(some 186), 0, none, .mv (.t 185)⟩,
  ⟨(some 187), 0, (some (186, true)), .ld (.t 1) (some 8)⟩,
  ⟨(some 188), 152, (some (186, true)), .call (.c (.fn 112)) [((.t 187), .plain), ((.c (.bool true)), .plain), ((.c (.bool false)), .plain), ((.c (.bool false)), .plain), ((.c (.bool false)), .plain), ((.c (.bool false)), .plain)]⟩,
  ⟨(some 189), 0, none, .pick (.t 186) (.t 188) (.c (.bool false))⟩,
  ⟨(some 190), 0, none, .mv (.t 189)⟩,
  ⟨(some 191), 0, (some (190, true)), .fa (.t 1) 3⟩,
  ⟨(some 192), 0, (some (190, true)), .ld (.t 191) none⟩,
  ⟨(some 193), 0, (some (190, true)), .bin .geq (.t 192) (.c (.int .i64 1))⟩,
  ⟨(some 194), 0, none, .pick (.t 190) (.t 193) (.c (.bool false))⟩,
  ⟨(some 195), 0, none, .mv (.t 194)⟩,
  ⟨(some 196), 0, (some (195, true)), .fa (.t 1) 3⟩,
  ⟨(some 197), 0, (some (195, true)), .ld (.t 196) none⟩,
  ⟨(some 198), 0, (some (195, true)), .bin .leq (.t 197) (.c (.int .i64 254))⟩,
  ⟨(some 199), 0, none, .pick (.t 195) (.t 198) (.c (.bool false))⟩,
  ⟨(some 3), 0, none, .mv (.t 199)⟩]) (.seq (.reg [⟨(some 201), 0, none, .bin .eql (.t 76) (.c (.int .i64 7))⟩,
  ⟨(some 200), 0, none, .mv (.t 201)⟩]) (.cond (.t 200) (.reg [⟨(some 202), 0, none, .mv (.t 3)⟩,
  ⟨(some 203), 0, none, .mv (.t 202)⟩,
  ⟨(some 204), 0, (some (203, true)), .mv (.t 4)⟩,
  ⟨(some 205), 0, none, .pick (.t 203) (.t 204) (.c (.bool false))⟩,
  ⟨(some 206), 0, none, .mv (.t 205)⟩,
  ⟨(some 207), 0, (some (206, true)), .ld (.t 1) (some 8)⟩,
  ⟨(some 208), 162, (some (206, true)), .call (.c (.fn 112)) [((.t 207), .plain), ((.c (.bool false)), .plain), ((.c (.bool true)), .plain), ((.c (.bool false)), .plain), ((.c (.bool false)), .plain), ((.c (.bool false)), .plain)]⟩,
  ⟨(some 209), 0, none, .pick (.t 206) (.t 208) (.c (.bool false))⟩,
  ⟨(some 210), 0, none, .mv (.t 209)⟩,
  ⟨(some 211), 0, (some (210, true)), .fa (.t 1) 4⟩,
  ⟨(some 212), 0, (some (210, true)), .ld (.t 211) none⟩,
  ⟨(some 213), 172, (some (210, true)), .call (.c (.fn 116)) [((.t 212), .view 1), ((.c (.int .i64 2)), .plain), ((.c (.int .i64 2)), .plain)]⟩,
  ⟨(some 214), 0, none, .pick (.t 210) (.t 213) (.c (.bool false))⟩,
  ⟨(some 3), 0, none, .mv (.t 214)⟩]) (.seq (.reg [⟨(some 216), 0, none, .bin .eql (.t 76) (.c (.int .i64 8))⟩,
  ⟨(some 215), 0, none, .mv (.t 216)⟩]) (.cond (.t 215) (.reg [⟨(some 217), 0, none, .mv (.t 3)⟩,
  ⟨(some 218), 0, none, .mv (.t 217)⟩,
  ⟨(some 219), 0, (some (218, true)), .mv (.t 4)⟩,
  ⟨(some 220), 0, none, .pick (.t 218) (.t 219) (.c (.bool false))⟩,
  ⟨(some 221), 0, none, .mv (.t 220)⟩,
  ⟨(some 222), 0, (some (221, true)), .ld (.t 1) (some 8)⟩,
  ⟨(some 223), 182, (some (221, true)), .call (.c (.fn 112)) [((.t 222), .plain), ((.c (.bool false)), .plain), ((.c (.bool true)), .plain), ((.c (.bool false)), .plain), ((.c (.bool false)), .plain), ((.c (.bool false)), .plain)]⟩,
  ⟨(some 224), 0, none, .pick (.t 221) (.t 223) (.c (.bool false))⟩,
  ⟨(some 225), 0, none, .mv (.t 224)⟩,
  ⟨(some 226), 0, (some (225, true)), .fa (.t 1) 4⟩,
  ⟨(some 227), 0, (some (225, true)), .ld (.t 226) none⟩,
  ⟨(some 228), 192, (some (225, true)), .call (.c (.fn 116)) [((.t 227), .view 1), ((.c (.int .i64 1)), .plain), ((.c (.int .i64 2)), .plain)]⟩,
  ⟨(some 229), 0, none, .pick (.t 225) (.t 228) (.c (.bool false))⟩,
  ⟨(some 3), 0, none, .mv (.t 229)⟩]) (.seq (.reg [⟨(some 231), 0, none, .bin .eql (.t 76) (.c (.int .i64 9))⟩,
  ⟨(some 230), 0, none, .mv (.t 231)⟩]) (.cond (.t 230) (.reg [⟨(some 232), 0, none, .mv (.t 3)⟩,
  ⟨(some 233), 0, none, .mv (.t 232)⟩,
  ⟨(some 234), 0, (some (233, true)), .ld (.t 1) (some 8)⟩,
  ⟨(some 235), 202, (some (233, true)), .call (.c (.fn 112)) [((.t 234), .plain), ((.c (.bool true)), .plain), ((.c (.bool false)), .plain), ((.c (.bool false)), .plain), ((.c (.bool false)), .plain), ((.c (.bool false)), .plain)]⟩,
  ⟨(some 236), 0, none, .pick (.t 233) (.t 235) (.c (.bool false))⟩,
  ⟨(some 237), 0, none, .mv (.t 236)⟩,
  ⟨(some 238), 0, (some (237, true)), .fa (.t 1) 3⟩,
  ⟨(some 239), 0, (some (237, true)), .ld (.t 238) none⟩,
  ⟨(some 240), 0, (some (237, true)), .bin .geq (.t 239) (.c (.int .i64 0))⟩,
  ⟨(some 241), 0, none, .pick (.t 237) (.t 240) (.c (.bool false))⟩,
  ⟨(some 242), 0, none, .mv (.t 241)⟩,
  ⟨(some 243), 0, (some (242, true)), .fa (.t 1) 3⟩,
  ⟨(some 244), 0, (some (242, true)), .ld (.t 243) none⟩,
  ⟨(some 245), 0, (some (242, true)), .bin .leq (.t 244) (.c (.int .i64 10))⟩,
  ⟨(some 246), 0, none, .pick (.t 242) (.t 245) (.c (.bool false))⟩,
  ⟨(some 3), 0, none, .mv (.t 246)⟩]) (.seq (.reg [⟨(some 248), 0, none, .bin .eql (.t 76) (.c (.int .i64 10))⟩,
  ⟨(some 247), 0, none, .mv (.t 248)⟩]) (.cond (.t 247) (.reg [⟨(some 249), 0, none, .mv (.t 3)⟩,
  ⟨(some 250), 0, none, .mv (.t 249)⟩,
  ⟨(some 251), 0, (some (250, true)), .ld (.t 1) (some 8)⟩,
  ⟨(some 252), 212, (some (250, true)), .call (.c (.fn 112)) [((.t 251), .plain), ((.c (.bool true)), .plain), ((.c (.bool false)), .plain), ((.c (.bool false)), .plain), ((.c (.bool false)), .plain), ((.c (.bool false)), .plain)]⟩,
  ⟨(some 253), 0, none, .pick (.t 250) (.t 252) (.c (.bool false))⟩,
  ⟨(some 254), 0, none, .mv (.t 253)⟩,
  ⟨(some 255), 0, (some (254, true)), .fa (.t 1) 3⟩,
  ⟨(some 256), 0, (some (254, true)), .ld (.t 255) none⟩,
  ⟨(some 257), 0, (some (254, true)), .bin .geq (.t 256) (.c (.int .i64 0))⟩,
  ⟨(some 258), 0, none, .pick (.t 254) (.t 257) (.c (.bool false))⟩,
  ⟨(some 259), 0, none, .mv (.t 258)⟩,
  ⟨(some 260), 0, (some (259, true)), .fa (.t 1) 3⟩,
  ⟨(some 261), 0, (some (259, true)), .ld (.t 260) none⟩,
  ⟨(some 262), 0, (some (259, true)), .bin .leq (.t 261) (.c (.int .i64 5))⟩,
  ⟨(some 263), 0, none, .pick (.t 259) (.t 262) (.c (.bool false))⟩,
  ⟨(some 3), 0, none, .mv (.t 263)⟩]) (.seq (.reg [⟨(some 265), 0, none, .bin .eql (.t 76) (.c (.int .i64 12))⟩,
  ⟨(some 264), 0, none, .mv (.t 265)⟩]) (.cond (.t 264) (.reg [⟨(some 266), 0, none, .mv (.t 3)⟩,
  ⟨(some 267), 0, none, .mv (.t 266)⟩,
  ⟨(some 268), 0, (some (267, true)), .ld (.t 1) (some 8)⟩,
  ⟨(some 269), 222, (some (267, true)), .call (.c (.fn 112)) [((.t 268), .plain), ((.c (.bool false)), .plain), ((.c (.bool false)), .plain), ((.c (.bool true)), .plain), ((.c (.bool false)), .plain), ((.c (.bool false)), .plain)]⟩,
  ⟨(some 270), 0, none, .pick (.t 267) (.t 269) (.c (.bool false))⟩,
  ⟨(some 271), 0, none, .mv (.t 270)⟩,
  ⟨(some 272), 0, (some (271, true)), .fa (.t 1) 5⟩,
  ⟨(some 273), 0, (some (271, true)), .ld (.t 272) none⟩,
  ⟨(some 274), 232, (some (271, true)), .call (.c (.fn 113)) [((.t 273), .plain)]⟩,
  ⟨(some 275), 0, none, .pick (.t 271) (.t 274) (.c (.bool false))⟩,
  ⟨(some 3), 0, none, .mv (.t 275)⟩]) (.reg [⟨(some 77), 0, none, .mv (.t 3)⟩,
  ⟨(some 78), 0, none, .mv (.t 77)⟩,
  ⟨(some 79), 0, (some (78, true)), .ld (.t 1) (some 8)⟩,
  ⟨(some 80), 242, (some (78, true)), .call (.c (.fn 112)) [((.t 79), .plain), ((.c (.bool false)), .plain), ((.c (.bool false)), .plain), ((.c (.bool false)), .plain), ((.c (.bool false)), .plain), ((.c (.bool true)), .plain)]⟩,
  ⟨(some 81), 0, none, .pick (.t 78) (.t 80) (.c (.bool false))⟩,
  ⟨(some 82), 0, none, .mv (.t 81)⟩,
  ⟨(some 83), 0, (some (82, true)), .fa (.t 1) 7⟩,
  ⟨(some 84), 0, (some (82, true)), .ld (.t 83) none⟩,
  ⟨(some 85), 252, (some (82, true)), .call (.c (.fn 114)) [((.t 84), .plain)]⟩,
  ⟨(some 86), 0, none, .pick (.t 82) (.t 85) (.c (.bool false))⟩,
  ⟨(some 3), 0, none, .mv (.t 86)⟩]))))))))))))))))))))))))) (.seq (.seq (.reg [⟨(some 276), 0, none, .mv (.t 3)⟩,
  ⟨(some 277), 0, none, .not (.t 276)⟩]) (.cond (.t 277) (.seq (.reg [⟨(some 2), 0, none, .mv (.c (.int .i64 61))⟩]) .ret) .skip)) (.seq (.reg [⟨(some 2), 0, none, .mv (.c (.int .i64 0))⟩]) .ret))))))))
def rs72 : List (Nat × Option Nat × Mode) := [(2, none, .plain)]
theorem chk72 : chkC Try.prog Try.f72.ntmps b72 (Try.f72.body.getD .skip) = true := by decide +kernel
theorem top72 {args : List Arg} {out : Out} (ha : args.length.ble Try.f72.ntmps = true) (h8 : args.length.ble 8 = true) (mss : List (List (Option Nat))) (hb : backOK args out.back)
    (hw : rnC Try.prog b72 (topQ rs72 args mss out) (slotsOf (argsAV argBase args 0) 0) (argsOb argBase args 0)) : CW Try.prog 72 args out :=
  CW.of Try.func72 rs72 mss (by decide +kernel) (by decide +kernel) (by decide +kernel) ha h8 chk72 hb hw
def l73_0 : IC := (.seq (.seq (.reg [⟨(some 78), 0, none, .mv (.t 9)⟩,
  ⟨(some 79), 0, none, .bin .lss (.t 78) (.c (.int .i64 64))⟩,
  ⟨(some 80), 0, none, .mv (.t 79)⟩,
  ⟨(some 81), 0, (some (80, true)), .mv (.t 8)⟩,
  ⟨(some 82), 0, (some (80, true)), .mv (.t 6)⟩,
  ⟨(some 83), 0, (some (80, true)), .bin .leq (.t 81) (.t 82)⟩,
  ⟨(some 84), 0, none, .pick (.t 80) (.t 83) (.c (.bool false))⟩]) (.cond (.t 84) .skip (.exit 0))) (.seq (.block 1 (.seq (.seq (.reg [⟨(some 87), 0, none, .ld (.t 3) (some 8)⟩,
  ⟨(some 88), 0, none, .mv (.t 8)⟩,
  ⟨(some 89), 33, none, .call (.c (.fn 68)) [((.t 87), .plain), ((.t 88), .plain)]⟩]) (.cond (.t 89) (.seq (.reg [⟨(some 4), 0, none, .mv (.c (.bool true))⟩]) .ret) .skip)) (.reg [⟨(some 90), 0, none, .mv (.t 8)⟩,
  ⟨(some 91), 0, none, .mv (.t 7)⟩,
  ⟨(some 92), 0, none, .bin .add (.t 90) (.t 91)⟩,
  ⟨(some 8), 0, none, .mv (.t 92)⟩]))) (.reg [⟨(some 85), 0, none, .mv (.t 9)⟩,
  ⟨(some 86), 0, none, .bin .add (.t 85) (.c (.int .i64 1))⟩,
  ⟨(some 9), 0, none, .mv (.t 86)⟩])))
def b73 : IC := (.seq (.reg [⟨(some 2), 1, none, .box (.t 0)⟩,
  ⟨(some 3), 2, none, .box (.t 1)⟩,
  ⟨(some 4), 0, none, .mv (.c (.bool false))⟩]) (.seq (.seq (.draw (.take 0 ⟨(some 10), 0, none, .fa (.t 2) 0⟩ (.take 1 ⟨(some 11), 0, none, .ld (.t 10) none⟩ (.take 3 ⟨(some 13), 0, none, .fa (.t 3) 0⟩ (.take 4 ⟨(some 14), 0, none, .ld (.t 13) none⟩ (.br 2 ⟨(some 12), 3, none, .call (.c (.fn 67)) [((.t 11), .plain)]⟩ [true, true, false, true] (.br 5 ⟨(some 15), 13, none, .call (.c (.fn 67)) [((.t 14), .plain)]⟩ [false, true, true] (.take 6 ⟨(some 16), 0, none, .bin .neq (.t 12) (.t 15)⟩ .done) .no) .no)))))) (.cond (.t 16) (.seq (.reg [⟨(some 4), 0, none, .mv (.c (.bool false))⟩]) .ret) .skip)) (.seq (.seq (.reg [⟨(some 17), 0, none, .fa (.t 2) 0⟩,
  ⟨(some 18), 0, none, .ld (.t 17) none⟩,
  ⟨(some 19), 0, none, .bin .eql (.t 18) (.c (.int .i64 15))⟩]) (.cond (.t 19) (.seq (.reg [⟨(some 20), 0, none, .fa (.t 2) 5⟩,
  ⟨(some 21), 0, none, .ld (.t 20) none⟩,
  ⟨(some 22), 0, none, .fa (.t 3) 5⟩,
  ⟨(some 23), 0, none, .ld (.t 22) none⟩,
  ⟨(some 24), 0, none, .bin .eql (.t 21) (.t 23)⟩,
  ⟨(some 25), 0, none, .mv (.t 24)⟩,
  ⟨(some 26), 0, (some (25, true)), .fa (.t 2) 6⟩,
  ⟨(some 27), 0, (some (25, true)), .ld (.t 26) none⟩,
  ⟨(some 28), 0, (some (25, true)), .fa (.t 3) 6⟩,
  ⟨(some 29), 0, (some (25, true)), .ld (.t 28) none⟩,
  ⟨(some 30), 0, (some (25, true)), .bin .eql (.t 27) (.t 29)⟩,
  ⟨(some 31), 0, none, .pick (.t 25) (.t 30) (.c (.bool false))⟩,
  ⟨(some 32), 0, none, .mv (.t 31)⟩,
  ⟨(some 33), 0, (some (32, false)), .fa (.t 2) 5⟩,
  ⟨(some 34), 0, (some (32, false)), .ld (.t 33) none⟩,
  ⟨(some 35), 0, (some (32, false)), .fa (.t 3) 6⟩,
  ⟨(some 36), 0, (some (32, false)), .ld (.t 35) none⟩,
  ⟨(some 37), 0, (some (32, false)), .bin .eql (.t 34) (.t 36)⟩,
  ⟨(some 38), 0, (some (32, false)), .mv (.t 37)⟩,
  ⟨(some 39), 0, (some (38, true)), .fa (.t 2) 6⟩,
  ⟨(some 40), 0, (some (38, true)), .ld (.t 39) none⟩,
  ⟨(some 41), 0, (some (38, true)), .fa (.t 3) 5⟩,
  ⟨(some 42), 0, (some (38, true)), .ld (.t 41) none⟩,
  ⟨(some 43), 0, (some (38, true)), .bin .eql (.t 40) (.t 42)⟩,
  ⟨(some 44), 0, (some (32, false)), .pick (.t 38) (.t 43) (.c (.bool false))⟩,
  ⟨(some 45), 0, none, .pick (.t 32) (.c (.bool true)) (.t 44)⟩,
  ⟨(some 4), 0, none, .mv (.t 45)⟩]) .ret) .skip)) (.seq (.draw (.take 0 ⟨(some 46), 0, none, .fa (.t 2) 1⟩ (.take 1 ⟨(some 47), 0, none, .ld (.t 46) none⟩ (.take 2 ⟨(some 48), 0, none, .fa (.t 3) 1⟩ (.take 3 ⟨(some 49), 0, none, .ld (.t 48) none⟩ (.take 4 ⟨(some 50), 0, none, .mx (.t 47) (.t 49)⟩ (.take 5 ⟨(some 51), 0, none, .fa (.t 2) 2⟩ (.take 6 ⟨(some 52), 0, none, .ld (.t 51) none⟩ (.take 7 ⟨(some 53), 0, none, .fa (.t 3) 2⟩ (.take 8 ⟨(some 54), 0, none, .ld (.t 53) none⟩ (.take 9 ⟨(some 55), 0, none, .mn (.t 52) (.t 54)⟩ (.take 10 ⟨(some 5), 0, none, .mv (.t 50)⟩ (.take 11 ⟨(some 6), 0, none, .mv (.t 55)⟩ .done))))))))))))) (.seq (.reg [⟨(some 56), 0, none, .ld (.t 2) (some 8)⟩,
  ⟨(some 57), 23, none, .call (.c (.fn 107)) [((.t 56), .plain)]⟩,
  ⟨(some 7), 0, none, .mv (.t 57)⟩]) (.seq (.reg [⟨(some 58), 0, none, .fa (.t 2) 1⟩,
  ⟨(some 59), 0, none, .ld (.t 58) none⟩,
  ⟨(some 8), 0, none, .mv (.t 59)⟩]) (.seq (.seq (.reg [⟨(some 60), 0, none, .mv (.t 5)⟩,
  ⟨(some 61), 0, none, .fa (.t 2) 1⟩,
  ⟨(some 62), 0, none, .ld (.t 61) none⟩,
  ⟨(some 63), 0, none, .bin .gtr (.t 60) (.t 62)⟩]) (.cond (.t 63) (.draw (.take 0 ⟨(some 64), 0, none, .fa (.t 2) 1⟩ (.take 1 ⟨(some 65), 0, none, .ld (.t 64) none⟩ (.take 2 ⟨(some 66), 0, none, .mv (.t 5)⟩ (.take 3 ⟨(some 67), 0, none, .fa (.t 2) 1⟩ (.take 4 ⟨(some 68), 0, none, .ld (.t 67) none⟩ (.take 5 ⟨(some 69), 0, none, .bin .sub (.t 66) (.t 68)⟩ (.take 6 ⟨(some 70), 0, none, .mv (.t 7)⟩ (.take 7 ⟨(some 71), 0, none, .bin .add (.t 69) (.t 70)⟩ (.take 8 ⟨(some 72), 0, none, .bin .sub (.t 71) (.c (.int .i64 1))⟩ (.take 9 ⟨(some 73), 0, none, .mv (.t 7)⟩ (.take 10 ⟨(some 74), 0, none, .bin .quo (.t 72) (.t 73)⟩ (.take 11 ⟨(some 75), 0, none, .mv (.t 7)⟩ (.take 12 ⟨(some 76), 0, none, .bin .mul (.t 74) (.t 75)⟩ (.take 13 ⟨(some 77), 0, none, .bin .add (.t 65) (.t 76)⟩ (.take 14 ⟨(some 8), 0, none, .mv (.t 77)⟩ .done)))))))))))))))) .skip)) (.seq (.seq (.reg [⟨(some 9), 0, none, .mv (.c (.int .i64 0))⟩]) (.block 0 (.loop0 [3, 6, 7, 8, 9] l73_0))) (.seq (.reg [⟨(some 4), 0, none, .mv (.c (.bool false))⟩]) .ret)))))))))
def rs73 : List (Nat × Option Nat × Mode) := [(4, none, .plain)]
theorem chk73 : chkC Try.prog Try.f73.ntmps b73 (Try.f73.body.getD .skip) = true := by decide +kernel
theorem top73 {args : List Arg} {out : Out} (ha : args.length.ble Try.f73.ntmps = true) (h8 : args.length.ble 8 = true) (mss : List (List (Option Nat))) (hb : backOK args out.back)
    (hw : rnC Try.prog b73 (topQ rs73 args mss out) (slotsOf (argsAV argBase args 0) 0) (argsOb argBase args 0)) : CW Try.prog 73 args out :=
  CW.of Try.func73 rs73 mss (by decide +kernel) (by decide +kernel) (by decide +kernel) ha h8 chk73 hb hw
def l51_0 : IC := (.seq (.seq (.reg [⟨(some 11), 0, none, .mv (.t 4)⟩,
  ⟨(some 12), 0, none, .mv (.t 0)⟩,
  ⟨(some 13), 0, none, .len false (.t 12)⟩,
  ⟨(some 14), 0, none, .bin .lss (.t 11) (.t 13)⟩]) (.cond (.t 14) .skip (.exit 0))) (.seq (.block 1 (.seq (.reg [⟨(some 17), 0, none, .mv (.t 0)⟩,
  ⟨(some 18), 0, none, .mv (.t 4)⟩,
  ⟨(some 19), 0, none, .ia (.t 17) (.t 18) 8⟩,
  ⟨(some 20), 0, none, .ld (.t 19) (some 8)⟩,
  ⟨(some 21), 1, none, .call (.c (.fn 72)) [((.t 20), .plain)]⟩,
  ⟨(some 5), 0, none, .mv (.t 21)⟩]) (.seq (.reg [⟨(some 22), 0, none, .mv (.t 5)⟩,
  ⟨(some 23), 0, none, .bin .neq (.t 22) (.c (.int .i64 0))⟩]) (.cond (.t 23) (.seq (.reg [⟨(some 24), 0, none, .mv (.t 4)⟩,
  ⟨(some 25), 0, none, .mv (.t 5)⟩,
  ⟨(some 2), 0, none, .mv (.t 24)⟩,
  ⟨(some 3), 0, none, .mv (.t 25)⟩]) .ret) .skip)))) (.reg [⟨(some 15), 0, none, .mv (.t 4)⟩,
  ⟨(some 16), 0, none, .bin .add (.t 15) (.c (.int .i64 1))⟩,
  ⟨(some 4), 0, none, .mv (.t 16)⟩])))
def n51_0 : Norm := ⟨[(0, .plain), (4, .plain)], []⟩
def l51_2 : IC := (.seq (.seq (.reg [⟨(some 32), 0, none, .mv (.t 7)⟩,
  ⟨(some 33), 0, none, .mv (.t 6)⟩,
  ⟨(some 34), 0, none, .bin .lss (.t 32) (.t 33)⟩]) (.cond (.t 34) .skip (.exit 4))) (.seq (.block 5 (.seq (.draw (.take 0 ⟨(some 37), 0, none, .mv (.t 0)⟩ (.take 1 ⟨(some 38), 0, none, .mv (.t 7)⟩ (.take 2 ⟨(some 39), 0, none, .ia (.t 37) (.t 38) 8⟩ (.take 3 ⟨(some 40), 0, none, .ld (.t 39) (some 8)⟩ (.take 4 ⟨(some 41), 0, none, .mv (.t 0)⟩ (.take 5 ⟨(some 42), 0, none, .mv (.t 6)⟩ (.take 6 ⟨(some 43), 0, none, .ia (.t 41) (.t 42) 8⟩ (.take 7 ⟨(some 44), 0, none, .ld (.t 43) (some 8)⟩ (.br 8 ⟨(some 45), 11, none, .call (.c (.fn 73)) [((.t 40), .plain), ((.t 44), .plain)]⟩ [false, true, true, true, false, true, true, true] .done .no)))))))))) (.cond (.t 45) (.seq (.reg [⟨(some 46), 0, none, .mv (.t 6)⟩,
  ⟨(some 2), 0, none, .mv (.t 46)⟩,
  ⟨(some 3), 0, none, .mv (.c (.int .i64 62))⟩]) .ret) .skip))) (.reg [⟨(some 35), 0, none, .mv (.t 7)⟩,
  ⟨(some 36), 0, none, .bin .add (.t 35) (.c (.int .i64 1))⟩,
  ⟨(some 7), 0, none, .mv (.t 36)⟩])))
def n51_2 : Norm := ⟨[(0, .plain), (6, .plain), (7, .plain)], []⟩
def l51_1 : IC := (.seq (.seq (.reg [⟨(some 26), 0, none, .mv (.t 6)⟩,
  ⟨(some 27), 0, none, .mv (.t 0)⟩,
  ⟨(some 28), 0, none, .len false (.t 27)⟩,
  ⟨(some 29), 0, none, .bin .lss (.t 26) (.t 28)⟩]) (.cond (.t 29) .skip (.exit 2))) (.seq (.block 3 (.seq (.reg [⟨(some 7), 0, none, .mv (.c (.int .i64 0))⟩]) (.block 4 (.loop n51_2 l51_2)))) (.reg [⟨(some 30), 0, none, .mv (.t 6)⟩,
  ⟨(some 31), 0, none, .bin .add (.t 30) (.c (.int .i64 1))⟩,
  ⟨(some 6), 0, none, .mv (.t 31)⟩])))
def n51_1 : Norm := ⟨[(0, .plain), (6, .plain)], []⟩
def b51 : IC := (.seq (.reg [⟨(some 2), 0, none, .mv (.c (.int .i64 0))⟩,
  ⟨(some 3), 0, none, .mv (.c (.int .i64 0))⟩]) (.seq (.seq (.reg [⟨(some 8), 0, none, .mv (.t 0)⟩,
  ⟨(some 9), 0, none, .len false (.t 8)⟩,
  ⟨(some 10), 0, none, .bin .gtr (.t 9) (.c (.int .i64 4096))⟩]) (.cond (.t 10) (.seq (.reg [⟨(some 2), 0, none, .mv (.c (.int .i64 0))⟩,
  ⟨(some 3), 0, none, .mv (.c (.int .i64 3))⟩]) .ret) .skip)) (.seq (.seq (.reg [⟨(some 4), 0, none, .mv (.c (.int .i64 0))⟩]) (.block 0 (.loop n51_0 l51_0))) (.seq (.seq (.reg [⟨(some 6), 0, none, .mv (.c (.int .i64 0))⟩]) (.block 2 (.loop n51_1 l51_1))) (.seq (.reg [⟨(some 2), 0, none, .mv (.c (.int .i64 0))⟩,
  ⟨(some 3), 0, none, .mv (.c (.int .i64 0))⟩]) .ret)))))
def rs51 : List (Nat × Option Nat × Mode) := [(2, none, .plain), (3, none, .plain)]
theorem chk51 : chkC Try.prog Try.f51.ntmps b51 (Try.f51.body.getD .skip) = true := by decide +kernel
theorem top51 {args : List Arg} {out : Out} (ha : args.length.ble Try.f51.ntmps = true) (h8 : args.length.ble 8 = true) (mss : List (List (Option Nat))) (hb : backOK args out.back)
    (hw : rnC Try.prog b51 (topQ rs51 args mss out) (slotsOf (argsAV argBase args 0) 0) (argsOb argBase args 0)) : CW Try.prog 51 args out :=
  CW.of Try.func51 rs51 mss (by decide +kernel) (by decide +kernel) (by decide +kernel) ha h8 chk51 hb hw
def spanR (r : Rec) : Bool := decide (0 ≤ r.lo) && decide (r.lo ≤ r.hi) && decide (r.hi ≤ 1114111)
def oneF (r : Rec) : Bool := decide (r.lo = r.hi) && valid (IntKind.i32.wrap (bitI .and .i64 r.lo 2097151))
def shiftF (r : Rec) : Bool :=
  match r.to with
  | [a] =>
    let b := IntKind.i64.wrap (IntKind.i64.wrap (IntKind.i64.wrap a + r.hi) - r.lo)
    decide (b ≤ 1114111) && (decide (b < 55296) || decide (57343 < IntKind.i64.wrap a))
  | _ => false
def okF (r : Rec) : Bool :=
  if r.kind = 1 ∨ r.kind = 2 ∨ r.kind = 11 then spanR r && bareR r false false false false false else
  if r.kind = 3 then spanR r && bareR r false true false false false && listR r.to 1 24 else
  if r.kind = 4 then spanR r && bareR r true true false false false && decide (1 ≤ r.n) && decide (r.n ≤ 64) && listR r.to 1 1 && shiftF r else
  if r.kind = 5 then spanR r && oneF r && bareR r false true false false false && listR r.to 0 24 else
  if r.kind = 13 then spanR r && oneF r && bareR r false true false false false && listR r.to 1 24 else
  if r.kind = 6 then spanR r && bareR r true false false false false && decide (1 ≤ r.n) && decide (r.n ≤ 254) else
  if r.kind = 7 then spanR r && oneF r && bareR r false true false false false && listR r.to 2 2 else
  if r.kind = 8 then spanR r && oneF r && bareR r false true false false false && listR r.to 1 2 else
  if r.kind = 9 then spanR r && bareR r true false false false false && decide (0 ≤ r.n) && decide (r.n ≤ 10) else
  if r.kind = 10 then spanR r && bareR r true false false false false && decide (0 ≤ r.n) && decide (r.n ≤ 5) else
  if r.kind = 12 then spanR r && bareR r false false true false false && nameS r.name else
  spanR r && bareR r false false false false true && weightR r.weight
def rightF (r : Rec) : Int :=
  if famK r.kind = 0 then 60 else
  if r.kind = 15 then
    (if decide (r.lo = 0) && decide (r.hi = 0) && bareR r false false true true true && nameS r.name && nameS r.other && !decide (r.name.data.toList = r.other.data.toList) && weightR r.weight then 0 else 61) else
  if okF r then 0 else 61
theorem w72 (r : Rec) (hn : r.to.length < 9223372036854775808) (Q : Ex → Slots → LH → Prop) (hQ : ∀ σ H, Slots.get σ 2 = .c (.int .i64 (rightF r)) → Q .ret σ H) : rnC Try.prog b72 Q [(0, .c (Rec.cv r))] [] := by
  unfold b72
  simp only [go_sem, ↓reduceIte, Nat.reduceEqDiff, Nat.reduceMul, Nat.reduceAdd, Nat.reduceDiv, Nat.reduceSub, Nat.reduceLT, Nat.reduceLeDiff, Int.reduceLE, Int.reduceLT, Int.reduceToNat, Int.reduceEq]
  repeat (refine ⟨by (first | omega | (intro h1 h2; exact ⟨h1, h2⟩) | (intro h1; omega) | (intro h1; exact h1) | trivial), ?_⟩)
  refine callK_1 _ (fun _ => cw67 _) (by simp only [go_sem, ↓reduceIte, Nat.reduceEqDiff, Nat.reduceMul, Nat.reduceAdd, Nat.reduceDiv, Nat.reduceSub, Nat.reduceLT, Nat.reduceLeDiff, Int.reduceLE, Int.reduceLT, Int.reduceToNat, Int.reduceEq]) rfl rfl ?_
  simp only [go_sem, ↓reduceIte, Nat.reduceEqDiff, Nat.reduceMul, Nat.reduceAdd, Nat.reduceDiv, Nat.reduceSub, Nat.reduceLT, Nat.reduceLeDiff, Int.reduceLE, Int.reduceLT, Int.reduceToNat, Int.reduceEq]
  repeat (refine ⟨by (first | omega | (intro h1 h2; exact ⟨h1, h2⟩) | (intro h1; omega) | (intro h1; exact h1) | trivial), ?_⟩)
  refine ⟨fun h0 => ?_, fun h0 => ?_⟩
  · apply hQ
    all_goals simp only [go_sem, ↓reduceIte, Nat.reduceEqDiff, Nat.reduceMul, Nat.reduceAdd, Nat.reduceDiv, Nat.reduceSub, Nat.reduceLT, Nat.reduceLeDiff, Int.reduceLE, Int.reduceLT, Int.reduceToNat, Int.reduceEq, rightF, if_pos h0]
  refine ⟨fun h15 => ?_, fun h15 => ?_⟩
  · repeat (refine ⟨by (first | omega | (intro h1 h2; exact ⟨h1, h2⟩) | (intro h1; omega) | (intro h1; exact h1) | trivial), ?_⟩)
    refine callK_1 _ (fun _ => cw112 r _ _ _ _ _) (by simp only [go_sem, ↓reduceIte, Nat.reduceEqDiff, Nat.reduceMul, Nat.reduceAdd, Nat.reduceDiv, Nat.reduceSub, Nat.reduceLT, Nat.reduceLeDiff, Int.reduceLE, Int.reduceLT, Int.reduceToNat, Int.reduceEq]) rfl rfl ?_
    simp only [go_sem, ↓reduceIte, Nat.reduceEqDiff, Nat.reduceMul, Nat.reduceAdd, Nat.reduceDiv, Nat.reduceSub, Nat.reduceLT, Nat.reduceLeDiff, Int.reduceLE, Int.reduceLT, Int.reduceToNat, Int.reduceEq]
    repeat (refine ⟨by (first | omega | (intro h1 h2; exact ⟨h1, h2⟩) | (intro h1; omega) | (intro h1; exact h1) | trivial), ?_⟩)
    refine callK_1 _ (fun _ => cw113 _) (by simp only [go_sem, ↓reduceIte, Nat.reduceEqDiff, Nat.reduceMul, Nat.reduceAdd, Nat.reduceDiv, Nat.reduceSub, Nat.reduceLT, Nat.reduceLeDiff, Int.reduceLE, Int.reduceLT, Int.reduceToNat, Int.reduceEq]) rfl rfl ?_
    simp only [go_sem, ↓reduceIte, Nat.reduceEqDiff, Nat.reduceMul, Nat.reduceAdd, Nat.reduceDiv, Nat.reduceSub, Nat.reduceLT, Nat.reduceLeDiff, Int.reduceLE, Int.reduceLT, Int.reduceToNat, Int.reduceEq]
    repeat (refine ⟨by (first | omega | (intro h1 h2; exact ⟨h1, h2⟩) | (intro h1; omega) | (intro h1; exact h1) | trivial), ?_⟩)
    refine callK_1 _ (fun _ => cw113 _) (by simp only [go_sem, ↓reduceIte, Nat.reduceEqDiff, Nat.reduceMul, Nat.reduceAdd, Nat.reduceDiv, Nat.reduceSub, Nat.reduceLT, Nat.reduceLeDiff, Int.reduceLE, Int.reduceLT, Int.reduceToNat, Int.reduceEq]) rfl rfl ?_
    simp only [go_sem, ↓reduceIte, Nat.reduceEqDiff, Nat.reduceMul, Nat.reduceAdd, Nat.reduceDiv, Nat.reduceSub, Nat.reduceLT, Nat.reduceLeDiff, Int.reduceLE, Int.reduceLT, Int.reduceToNat, Int.reduceEq]
    repeat (refine ⟨by (first | omega | (intro h1 h2; exact ⟨h1, h2⟩) | (intro h1; omega) | (intro h1; exact h1) | trivial), ?_⟩)
    refine callK_1 _ (fun _ => cw114 _) (by simp only [go_sem, ↓reduceIte, Nat.reduceEqDiff, Nat.reduceMul, Nat.reduceAdd, Nat.reduceDiv, Nat.reduceSub, Nat.reduceLT, Nat.reduceLeDiff, Int.reduceLE, Int.reduceLT, Int.reduceToNat, Int.reduceEq]) rfl rfl ?_
    simp only [go_sem, ↓reduceIte, Nat.reduceEqDiff, Nat.reduceMul, Nat.reduceAdd, Nat.reduceDiv, Nat.reduceSub, Nat.reduceLT, Nat.reduceLeDiff, Int.reduceLE, Int.reduceLT, Int.reduceToNat, Int.reduceEq]
    repeat (refine ⟨by (first | omega | (intro h1 h2; exact ⟨h1, h2⟩) | (intro h1; omega) | (intro h1; exact h1) | trivial), ?_⟩)
    refine ⟨fun hh => ?_, fun hh => ?_⟩
    all_goals
      apply hQ
      all_goals simp only [go_sem, ↓reduceIte, Nat.reduceEqDiff, Nat.reduceMul, Nat.reduceAdd, Nat.reduceDiv, Nat.reduceSub, Nat.reduceLT, Nat.reduceLeDiff, Int.reduceLE, Int.reduceLT, Int.reduceToNat, Int.reduceEq, rightF, if_neg h0, if_pos h15]
      grind
  repeat (refine ⟨by (first | omega | (intro h1 h2; exact ⟨h1, h2⟩) | (intro h1; omega) | (intro h1; exact h1) | trivial), ?_⟩)
  refine callK_1 _ (fun _ => cw115 _) (by simp only [go_sem, ↓reduceIte, Nat.reduceEqDiff, Nat.reduceMul, Nat.reduceAdd, Nat.reduceDiv, Nat.reduceSub, Nat.reduceLT, Nat.reduceLeDiff, Int.reduceLE, Int.reduceLT, Int.reduceToNat, Int.reduceEq]) rfl rfl ?_
  simp only [go_sem, ↓reduceIte, Nat.reduceEqDiff, Nat.reduceMul, Nat.reduceAdd, Nat.reduceDiv, Nat.reduceSub, Nat.reduceLT, Nat.reduceLeDiff, Int.reduceLE, Int.reduceLT, Int.reduceToNat, Int.reduceEq]
  repeat (refine ⟨by (first | omega | (intro h1 h2; exact ⟨h1, h2⟩) | (intro h1; omega) | (intro h1; exact h1) | trivial), ?_⟩)
  refine ⟨fun h1 => ?_, fun h1 => ?_⟩
  · refine callK_1 _ (fun _ => cw112 r _ _ _ _ _) (by simp only [go_sem, ↓reduceIte, Nat.reduceEqDiff, Nat.reduceMul, Nat.reduceAdd, Nat.reduceDiv, Nat.reduceSub, Nat.reduceLT, Nat.reduceLeDiff, Int.reduceLE, Int.reduceLT, Int.reduceToNat, Int.reduceEq]) rfl rfl ?_
    simp only [go_sem, ↓reduceIte, Nat.reduceEqDiff, Nat.reduceMul, Nat.reduceAdd, Nat.reduceDiv, Nat.reduceSub, Nat.reduceLT, Nat.reduceLeDiff, Int.reduceLE, Int.reduceLT, Int.reduceToNat, Int.reduceEq]
    repeat (refine ⟨by (first | omega | (intro h1 h2; exact ⟨h1, h2⟩) | (intro h1; omega) | (intro h1; exact h1) | trivial), ?_⟩)
    refine ⟨fun hh => ?_, fun hh => ?_⟩
    all_goals
      apply hQ
      all_goals simp only [go_sem, ↓reduceIte, Nat.reduceEqDiff, Nat.reduceMul, Nat.reduceAdd, Nat.reduceDiv, Nat.reduceSub, Nat.reduceLT, Nat.reduceLeDiff, Int.reduceLE, Int.reduceLT, Int.reduceToNat, Int.reduceEq, rightF, if_neg h0, if_neg h15]
      simp only [okF, spanR, oneF, h1, true_or, or_true, if_true, Int.reduceEq, or_self, if_false]
      grind
  refine ⟨fun h2 => ?_, fun h2 => ?_⟩
  · refine callK_1 _ (fun _ => cw112 r _ _ _ _ _) (by simp only [go_sem, ↓reduceIte, Nat.reduceEqDiff, Nat.reduceMul, Nat.reduceAdd, Nat.reduceDiv, Nat.reduceSub, Nat.reduceLT, Nat.reduceLeDiff, Int.reduceLE, Int.reduceLT, Int.reduceToNat, Int.reduceEq]) rfl rfl ?_
    simp only [go_sem, ↓reduceIte, Nat.reduceEqDiff, Nat.reduceMul, Nat.reduceAdd, Nat.reduceDiv, Nat.reduceSub, Nat.reduceLT, Nat.reduceLeDiff, Int.reduceLE, Int.reduceLT, Int.reduceToNat, Int.reduceEq]
    repeat (refine ⟨by (first | omega | (intro h1 h2; exact ⟨h1, h2⟩) | (intro h1; omega) | (intro h1; exact h1) | trivial), ?_⟩)
    refine ⟨fun hh => ?_, fun hh => ?_⟩
    all_goals
      apply hQ
      all_goals simp only [go_sem, ↓reduceIte, Nat.reduceEqDiff, Nat.reduceMul, Nat.reduceAdd, Nat.reduceDiv, Nat.reduceSub, Nat.reduceLT, Nat.reduceLeDiff, Int.reduceLE, Int.reduceLT, Int.reduceToNat, Int.reduceEq, rightF, if_neg h0, if_neg h15]
      simp only [okF, spanR, oneF, h2, true_or, or_true, if_true, Int.reduceEq, or_self, if_false]
      grind
  refine ⟨fun h11 => ?_, fun h11 => ?_⟩
  · refine callK_1 _ (fun _ => cw112 r _ _ _ _ _) (by simp only [go_sem, ↓reduceIte, Nat.reduceEqDiff, Nat.reduceMul, Nat.reduceAdd, Nat.reduceDiv, Nat.reduceSub, Nat.reduceLT, Nat.reduceLeDiff, Int.reduceLE, Int.reduceLT, Int.reduceToNat, Int.reduceEq]) rfl rfl ?_
    simp only [go_sem, ↓reduceIte, Nat.reduceEqDiff, Nat.reduceMul, Nat.reduceAdd, Nat.reduceDiv, Nat.reduceSub, Nat.reduceLT, Nat.reduceLeDiff, Int.reduceLE, Int.reduceLT, Int.reduceToNat, Int.reduceEq]
    repeat (refine ⟨by (first | omega | (intro h1 h2; exact ⟨h1, h2⟩) | (intro h1; omega) | (intro h1; exact h1) | trivial), ?_⟩)
    refine ⟨fun hh => ?_, fun hh => ?_⟩
    all_goals
      apply hQ
      all_goals simp only [go_sem, ↓reduceIte, Nat.reduceEqDiff, Nat.reduceMul, Nat.reduceAdd, Nat.reduceDiv, Nat.reduceSub, Nat.reduceLT, Nat.reduceLeDiff, Int.reduceLE, Int.reduceLT, Int.reduceToNat, Int.reduceEq, rightF, if_neg h0, if_neg h15]
      simp only [okF, spanR, oneF, h11, true_or, or_true, if_true, Int.reduceEq, or_self, if_false]
      grind
  refine ⟨fun h3 => ?_, fun h3 => ?_⟩
  · refine callK_1 _ (fun _ => cw112 r _ _ _ _ _) (by simp only [go_sem, ↓reduceIte, Nat.reduceEqDiff, Nat.reduceMul, Nat.reduceAdd, Nat.reduceDiv, Nat.reduceSub, Nat.reduceLT, Nat.reduceLeDiff, Int.reduceLE, Int.reduceLT, Int.reduceToNat, Int.reduceEq]) rfl rfl ?_
    simp only [go_sem, ↓reduceIte, Nat.reduceEqDiff, Nat.reduceMul, Nat.reduceAdd, Nat.reduceDiv, Nat.reduceSub, Nat.reduceLT, Nat.reduceLeDiff, Int.reduceLE, Int.reduceLT, Int.reduceToNat, Int.reduceEq]
    repeat (refine ⟨by (first | omega | (intro h1 h2; exact ⟨h1, h2⟩) | (intro h1; omega) | (intro h1; exact h1) | trivial), ?_⟩)
    refine callK_1 _ (fun _ => cw116 _ _ _ hn) (by simp only [go_sem, ↓reduceIte, Nat.reduceEqDiff, Nat.reduceMul, Nat.reduceAdd, Nat.reduceDiv, Nat.reduceSub, Nat.reduceLT, Nat.reduceLeDiff, Int.reduceLE, Int.reduceLT, Int.reduceToNat, Int.reduceEq]) rfl rfl ?_
    simp only [go_sem, ↓reduceIte, Nat.reduceEqDiff, Nat.reduceMul, Nat.reduceAdd, Nat.reduceDiv, Nat.reduceSub, Nat.reduceLT, Nat.reduceLeDiff, Int.reduceLE, Int.reduceLT, Int.reduceToNat, Int.reduceEq]
    repeat (refine ⟨by (first | omega | (intro h1 h2; exact ⟨h1, h2⟩) | (intro h1; omega) | (intro h1; exact h1) | trivial), ?_⟩)
    refine ⟨fun hh => ?_, fun hh => ?_⟩
    all_goals
      apply hQ
      all_goals simp only [go_sem, ↓reduceIte, Nat.reduceEqDiff, Nat.reduceMul, Nat.reduceAdd, Nat.reduceDiv, Nat.reduceSub, Nat.reduceLT, Nat.reduceLeDiff, Int.reduceLE, Int.reduceLT, Int.reduceToNat, Int.reduceEq, rightF, if_neg h0, if_neg h15]
      simp only [okF, spanR, oneF, h3, true_or, or_true, if_true, Int.reduceEq, or_self, if_false]
      grind
  refine ⟨fun h4 => ?_, fun h4 => ?_⟩
  · refine callK_1 _ (fun _ => cw112 r _ _ _ _ _) (by simp only [go_sem, ↓reduceIte, Nat.reduceEqDiff, Nat.reduceMul, Nat.reduceAdd, Nat.reduceDiv, Nat.reduceSub, Nat.reduceLT, Nat.reduceLeDiff, Int.reduceLE, Int.reduceLT, Int.reduceToNat, Int.reduceEq]) rfl rfl ?_
    simp only [go_sem, ↓reduceIte, Nat.reduceEqDiff, Nat.reduceMul, Nat.reduceAdd, Nat.reduceDiv, Nat.reduceSub, Nat.reduceLT, Nat.reduceLeDiff, Int.reduceLE, Int.reduceLT, Int.reduceToNat, Int.reduceEq]
    repeat (refine ⟨by (first | omega | (intro h1 h2; exact ⟨h1, h2⟩) | (intro h1; omega) | (intro h1; exact h1) | trivial), ?_⟩)
    refine callK_1 _ (fun _ => cw116 _ _ _ hn) (by simp only [go_sem, ↓reduceIte, Nat.reduceEqDiff, Nat.reduceMul, Nat.reduceAdd, Nat.reduceDiv, Nat.reduceSub, Nat.reduceLT, Nat.reduceLeDiff, Int.reduceLE, Int.reduceLT, Int.reduceToNat, Int.reduceEq]) rfl rfl ?_
    simp only [go_sem, ↓reduceIte, Nat.reduceEqDiff, Nat.reduceMul, Nat.reduceAdd, Nat.reduceDiv, Nat.reduceSub, Nat.reduceLT, Nat.reduceLeDiff, Int.reduceLE, Int.reduceLT, Int.reduceToNat, Int.reduceEq]
    repeat (refine ⟨by (first | omega | (intro h1 h2; exact ⟨h1, h2⟩) | (intro h1; omega) | (intro h1; exact h1) | trivial), ?_⟩)
    by_cases hl : ∃ a, r.to = [a]
    · obtain ⟨a, hto⟩ := hl
      have e0 : (runes r.to).getD 0 .undef = .int .i32 a := by simp [hto, runes]
      have el : r.to.length = 1 := by simp [hto]
      simp only [go_sem, ↓reduceIte, Nat.reduceEqDiff, Nat.reduceMul, Nat.reduceAdd, Nat.reduceDiv, Nat.reduceSub, Nat.reduceLT, Nat.reduceLeDiff, Int.reduceLE, Int.reduceLT, Int.reduceToNat, Int.reduceEq, e0, el]
      refine ⟨fun hk => ⟨by decide, ?_⟩, fun hk => ?_⟩
      · repeat (refine ⟨by (first | omega | (intro h1 h2; exact ⟨h1, h2⟩) | (intro h1; omega) | (intro h1; exact h1) | trivial), ?_⟩)
        refine ⟨fun hh => ?_, fun hh => ?_⟩
        all_goals
          apply hQ
          all_goals simp only [go_sem, ↓reduceIte, Nat.reduceEqDiff, Nat.reduceMul, Nat.reduceAdd, Nat.reduceDiv, Nat.reduceSub, Nat.reduceLT, Nat.reduceLeDiff, Int.reduceLE, Int.reduceLT, Int.reduceToNat, Int.reduceEq, rightF, if_neg h0, if_neg h15]
          have hs : okF r = (spanR r && bareR r true true false false false && decide (1 ≤ r.n) && decide (r.n ≤ 64) && listR r.to 1 1 && shiftF r) := by unfold okF; simp [h4]
          rw [hs]; unfold spanR shiftF; rw [hto]
          rw [hto] at hk
          grind
      · refine ⟨fun hh => ?_, fun hh => ?_⟩
        all_goals
          apply hQ
          all_goals simp only [go_sem, ↓reduceIte, Nat.reduceEqDiff, Nat.reduceMul, Nat.reduceAdd, Nat.reduceDiv, Nat.reduceSub, Nat.reduceLT, Nat.reduceLeDiff, Int.reduceLE, Int.reduceLT, Int.reduceToNat, Int.reduceEq, rightF, if_neg h0, if_neg h15]
          have hs : okF r = (spanR r && bareR r true true false false false && decide (1 ≤ r.n) && decide (r.n ≤ 64) && listR r.to 1 1 && shiftF r) := by unfold okF; simp [h4]
          rw [hs]; unfold spanR
          grind
    · have hf : listR r.to 1 1 = false := by
        match hto : r.to, hl with
        | [], _ => rfl
        | [a], hl => exact absurd ⟨a, rfl⟩ hl
        | a :: b :: l, _ => simp [listR]; omega
      refine ⟨fun hk => ?_, fun hk => ?_⟩
      · exfalso; rw [hf] at hk; simp at hk
      · refine ⟨fun hh => ?_, fun hh => ?_⟩
        all_goals
          apply hQ
          all_goals simp only [go_sem, ↓reduceIte, Nat.reduceEqDiff, Nat.reduceMul, Nat.reduceAdd, Nat.reduceDiv, Nat.reduceSub, Nat.reduceLT, Nat.reduceLeDiff, Int.reduceLE, Int.reduceLT, Int.reduceToNat, Int.reduceEq, rightF, if_neg h0, if_neg h15]
          have hs : okF r = (spanR r && bareR r true true false false false && decide (1 ≤ r.n) && decide (r.n ≤ 64) && listR r.to 1 1 && shiftF r) := by unfold okF; simp [h4]
          rw [hs]
          grind
  refine ⟨fun h5 => ?_, fun h5 => ?_⟩
  · refine callK_1 _ (fun _ => cw112 r _ _ _ _ _) (by simp only [go_sem, ↓reduceIte, Nat.reduceEqDiff, Nat.reduceMul, Nat.reduceAdd, Nat.reduceDiv, Nat.reduceSub, Nat.reduceLT, Nat.reduceLeDiff, Int.reduceLE, Int.reduceLT, Int.reduceToNat, Int.reduceEq]) rfl rfl ?_
    simp only [go_sem, ↓reduceIte, Nat.reduceEqDiff, Nat.reduceMul, Nat.reduceAdd, Nat.reduceDiv, Nat.reduceSub, Nat.reduceLT, Nat.reduceLeDiff, Int.reduceLE, Int.reduceLT, Int.reduceToNat, Int.reduceEq]
    repeat (refine ⟨by (first | omega | (intro h1 h2; exact ⟨h1, h2⟩) | (intro h1; omega) | (intro h1; exact h1) | trivial), ?_⟩)
    refine callK_1 _ (fun _ => cw116 _ _ _ hn) (by simp only [go_sem, ↓reduceIte, Nat.reduceEqDiff, Nat.reduceMul, Nat.reduceAdd, Nat.reduceDiv, Nat.reduceSub, Nat.reduceLT, Nat.reduceLeDiff, Int.reduceLE, Int.reduceLT, Int.reduceToNat, Int.reduceEq]) rfl rfl ?_
    simp only [go_sem, ↓reduceIte, Nat.reduceEqDiff, Nat.reduceMul, Nat.reduceAdd, Nat.reduceDiv, Nat.reduceSub, Nat.reduceLT, Nat.reduceLeDiff, Int.reduceLE, Int.reduceLT, Int.reduceToNat, Int.reduceEq]
    repeat (refine ⟨by (first | omega | (intro h1 h2; exact ⟨h1, h2⟩) | (intro h1; omega) | (intro h1; exact h1) | trivial), ?_⟩)
    refine ⟨fun hh => ?_, fun hh => ?_⟩
    all_goals
      apply hQ
      all_goals simp only [go_sem, ↓reduceIte, Nat.reduceEqDiff, Nat.reduceMul, Nat.reduceAdd, Nat.reduceDiv, Nat.reduceSub, Nat.reduceLT, Nat.reduceLeDiff, Int.reduceLE, Int.reduceLT, Int.reduceToNat, Int.reduceEq, rightF, if_neg h0, if_neg h15]
      simp only [okF, spanR, oneF, h5, true_or, or_true, if_true, Int.reduceEq, or_self, if_false]
      grind
  refine ⟨fun h13 => ?_, fun h13 => ?_⟩
  · refine callK_1 _ (fun _ => cw112 r _ _ _ _ _) (by simp only [go_sem, ↓reduceIte, Nat.reduceEqDiff, Nat.reduceMul, Nat.reduceAdd, Nat.reduceDiv, Nat.reduceSub, Nat.reduceLT, Nat.reduceLeDiff, Int.reduceLE, Int.reduceLT, Int.reduceToNat, Int.reduceEq]) rfl rfl ?_
    simp only [go_sem, ↓reduceIte, Nat.reduceEqDiff, Nat.reduceMul, Nat.reduceAdd, Nat.reduceDiv, Nat.reduceSub, Nat.reduceLT, Nat.reduceLeDiff, Int.reduceLE, Int.reduceLT, Int.reduceToNat, Int.reduceEq]
    repeat (refine ⟨by (first | omega | (intro h1 h2; exact ⟨h1, h2⟩) | (intro h1; omega) | (intro h1; exact h1) | trivial), ?_⟩)
    refine callK_1 _ (fun _ => cw116 _ _ _ hn) (by simp only [go_sem, ↓reduceIte, Nat.reduceEqDiff, Nat.reduceMul, Nat.reduceAdd, Nat.reduceDiv, Nat.reduceSub, Nat.reduceLT, Nat.reduceLeDiff, Int.reduceLE, Int.reduceLT, Int.reduceToNat, Int.reduceEq]) rfl rfl ?_
    simp only [go_sem, ↓reduceIte, Nat.reduceEqDiff, Nat.reduceMul, Nat.reduceAdd, Nat.reduceDiv, Nat.reduceSub, Nat.reduceLT, Nat.reduceLeDiff, Int.reduceLE, Int.reduceLT, Int.reduceToNat, Int.reduceEq]
    repeat (refine ⟨by (first | omega | (intro h1 h2; exact ⟨h1, h2⟩) | (intro h1; omega) | (intro h1; exact h1) | trivial), ?_⟩)
    refine ⟨fun hh => ?_, fun hh => ?_⟩
    all_goals
      apply hQ
      all_goals simp only [go_sem, ↓reduceIte, Nat.reduceEqDiff, Nat.reduceMul, Nat.reduceAdd, Nat.reduceDiv, Nat.reduceSub, Nat.reduceLT, Nat.reduceLeDiff, Int.reduceLE, Int.reduceLT, Int.reduceToNat, Int.reduceEq, rightF, if_neg h0, if_neg h15]
      simp only [okF, spanR, oneF, h13, true_or, or_true, if_true, Int.reduceEq, or_self, if_false]
      grind
  refine ⟨fun h6 => ?_, fun h6 => ?_⟩
  · refine callK_1 _ (fun _ => cw112 r _ _ _ _ _) (by simp only [go_sem, ↓reduceIte, Nat.reduceEqDiff, Nat.reduceMul, Nat.reduceAdd, Nat.reduceDiv, Nat.reduceSub, Nat.reduceLT, Nat.reduceLeDiff, Int.reduceLE, Int.reduceLT, Int.reduceToNat, Int.reduceEq]) rfl rfl ?_
    simp only [go_sem, ↓reduceIte, Nat.reduceEqDiff, Nat.reduceMul, Nat.reduceAdd, Nat.reduceDiv, Nat.reduceSub, Nat.reduceLT, Nat.reduceLeDiff, Int.reduceLE, Int.reduceLT, Int.reduceToNat, Int.reduceEq]
    repeat (refine ⟨by (first | omega | (intro h1 h2; exact ⟨h1, h2⟩) | (intro h1; omega) | (intro h1; exact h1) | trivial), ?_⟩)
    refine ⟨fun hh => ?_, fun hh => ?_⟩
    all_goals
      apply hQ
      all_goals simp only [go_sem, ↓reduceIte, Nat.reduceEqDiff, Nat.reduceMul, Nat.reduceAdd, Nat.reduceDiv, Nat.reduceSub, Nat.reduceLT, Nat.reduceLeDiff, Int.reduceLE, Int.reduceLT, Int.reduceToNat, Int.reduceEq, rightF, if_neg h0, if_neg h15]
      simp only [okF, spanR, oneF, h6, true_or, or_true, if_true, Int.reduceEq, or_self, if_false]
      grind
  refine ⟨fun h7 => ?_, fun h7 => ?_⟩
  · refine callK_1 _ (fun _ => cw112 r _ _ _ _ _) (by simp only [go_sem, ↓reduceIte, Nat.reduceEqDiff, Nat.reduceMul, Nat.reduceAdd, Nat.reduceDiv, Nat.reduceSub, Nat.reduceLT, Nat.reduceLeDiff, Int.reduceLE, Int.reduceLT, Int.reduceToNat, Int.reduceEq]) rfl rfl ?_
    simp only [go_sem, ↓reduceIte, Nat.reduceEqDiff, Nat.reduceMul, Nat.reduceAdd, Nat.reduceDiv, Nat.reduceSub, Nat.reduceLT, Nat.reduceLeDiff, Int.reduceLE, Int.reduceLT, Int.reduceToNat, Int.reduceEq]
    repeat (refine ⟨by (first | omega | (intro h1 h2; exact ⟨h1, h2⟩) | (intro h1; omega) | (intro h1; exact h1) | trivial), ?_⟩)
    refine callK_1 _ (fun _ => cw116 _ _ _ hn) (by simp only [go_sem, ↓reduceIte, Nat.reduceEqDiff, Nat.reduceMul, Nat.reduceAdd, Nat.reduceDiv, Nat.reduceSub, Nat.reduceLT, Nat.reduceLeDiff, Int.reduceLE, Int.reduceLT, Int.reduceToNat, Int.reduceEq]) rfl rfl ?_
    simp only [go_sem, ↓reduceIte, Nat.reduceEqDiff, Nat.reduceMul, Nat.reduceAdd, Nat.reduceDiv, Nat.reduceSub, Nat.reduceLT, Nat.reduceLeDiff, Int.reduceLE, Int.reduceLT, Int.reduceToNat, Int.reduceEq]
    repeat (refine ⟨by (first | omega | (intro h1 h2; exact ⟨h1, h2⟩) | (intro h1; omega) | (intro h1; exact h1) | trivial), ?_⟩)
    refine ⟨fun hh => ?_, fun hh => ?_⟩
    all_goals
      apply hQ
      all_goals simp only [go_sem, ↓reduceIte, Nat.reduceEqDiff, Nat.reduceMul, Nat.reduceAdd, Nat.reduceDiv, Nat.reduceSub, Nat.reduceLT, Nat.reduceLeDiff, Int.reduceLE, Int.reduceLT, Int.reduceToNat, Int.reduceEq, rightF, if_neg h0, if_neg h15]
      simp only [okF, spanR, oneF, h7, true_or, or_true, if_true, Int.reduceEq, or_self, if_false]
      grind
  refine ⟨fun h8 => ?_, fun h8 => ?_⟩
  · refine callK_1 _ (fun _ => cw112 r _ _ _ _ _) (by simp only [go_sem, ↓reduceIte, Nat.reduceEqDiff, Nat.reduceMul, Nat.reduceAdd, Nat.reduceDiv, Nat.reduceSub, Nat.reduceLT, Nat.reduceLeDiff, Int.reduceLE, Int.reduceLT, Int.reduceToNat, Int.reduceEq]) rfl rfl ?_
    simp only [go_sem, ↓reduceIte, Nat.reduceEqDiff, Nat.reduceMul, Nat.reduceAdd, Nat.reduceDiv, Nat.reduceSub, Nat.reduceLT, Nat.reduceLeDiff, Int.reduceLE, Int.reduceLT, Int.reduceToNat, Int.reduceEq]
    repeat (refine ⟨by (first | omega | (intro h1 h2; exact ⟨h1, h2⟩) | (intro h1; omega) | (intro h1; exact h1) | trivial), ?_⟩)
    refine callK_1 _ (fun _ => cw116 _ _ _ hn) (by simp only [go_sem, ↓reduceIte, Nat.reduceEqDiff, Nat.reduceMul, Nat.reduceAdd, Nat.reduceDiv, Nat.reduceSub, Nat.reduceLT, Nat.reduceLeDiff, Int.reduceLE, Int.reduceLT, Int.reduceToNat, Int.reduceEq]) rfl rfl ?_
    simp only [go_sem, ↓reduceIte, Nat.reduceEqDiff, Nat.reduceMul, Nat.reduceAdd, Nat.reduceDiv, Nat.reduceSub, Nat.reduceLT, Nat.reduceLeDiff, Int.reduceLE, Int.reduceLT, Int.reduceToNat, Int.reduceEq]
    repeat (refine ⟨by (first | omega | (intro h1 h2; exact ⟨h1, h2⟩) | (intro h1; omega) | (intro h1; exact h1) | trivial), ?_⟩)
    refine ⟨fun hh => ?_, fun hh => ?_⟩
    all_goals
      apply hQ
      all_goals simp only [go_sem, ↓reduceIte, Nat.reduceEqDiff, Nat.reduceMul, Nat.reduceAdd, Nat.reduceDiv, Nat.reduceSub, Nat.reduceLT, Nat.reduceLeDiff, Int.reduceLE, Int.reduceLT, Int.reduceToNat, Int.reduceEq, rightF, if_neg h0, if_neg h15]
      simp only [okF, spanR, oneF, h8, true_or, or_true, if_true, Int.reduceEq, or_self, if_false]
      grind
  refine ⟨fun h9 => ?_, fun h9 => ?_⟩
  · refine callK_1 _ (fun _ => cw112 r _ _ _ _ _) (by simp only [go_sem, ↓reduceIte, Nat.reduceEqDiff, Nat.reduceMul, Nat.reduceAdd, Nat.reduceDiv, Nat.reduceSub, Nat.reduceLT, Nat.reduceLeDiff, Int.reduceLE, Int.reduceLT, Int.reduceToNat, Int.reduceEq]) rfl rfl ?_
    simp only [go_sem, ↓reduceIte, Nat.reduceEqDiff, Nat.reduceMul, Nat.reduceAdd, Nat.reduceDiv, Nat.reduceSub, Nat.reduceLT, Nat.reduceLeDiff, Int.reduceLE, Int.reduceLT, Int.reduceToNat, Int.reduceEq]
    repeat (refine ⟨by (first | omega | (intro h1 h2; exact ⟨h1, h2⟩) | (intro h1; omega) | (intro h1; exact h1) | trivial), ?_⟩)
    refine ⟨fun hh => ?_, fun hh => ?_⟩
    all_goals
      apply hQ
      all_goals simp only [go_sem, ↓reduceIte, Nat.reduceEqDiff, Nat.reduceMul, Nat.reduceAdd, Nat.reduceDiv, Nat.reduceSub, Nat.reduceLT, Nat.reduceLeDiff, Int.reduceLE, Int.reduceLT, Int.reduceToNat, Int.reduceEq, rightF, if_neg h0, if_neg h15]
      simp only [okF, spanR, oneF, h9, true_or, or_true, if_true, Int.reduceEq, or_self, if_false]
      grind
  refine ⟨fun h10 => ?_, fun h10 => ?_⟩
  · refine callK_1 _ (fun _ => cw112 r _ _ _ _ _) (by simp only [go_sem, ↓reduceIte, Nat.reduceEqDiff, Nat.reduceMul, Nat.reduceAdd, Nat.reduceDiv, Nat.reduceSub, Nat.reduceLT, Nat.reduceLeDiff, Int.reduceLE, Int.reduceLT, Int.reduceToNat, Int.reduceEq]) rfl rfl ?_
    simp only [go_sem, ↓reduceIte, Nat.reduceEqDiff, Nat.reduceMul, Nat.reduceAdd, Nat.reduceDiv, Nat.reduceSub, Nat.reduceLT, Nat.reduceLeDiff, Int.reduceLE, Int.reduceLT, Int.reduceToNat, Int.reduceEq]
    repeat (refine ⟨by (first | omega | (intro h1 h2; exact ⟨h1, h2⟩) | (intro h1; omega) | (intro h1; exact h1) | trivial), ?_⟩)
    refine ⟨fun hh => ?_, fun hh => ?_⟩
    all_goals
      apply hQ
      all_goals simp only [go_sem, ↓reduceIte, Nat.reduceEqDiff, Nat.reduceMul, Nat.reduceAdd, Nat.reduceDiv, Nat.reduceSub, Nat.reduceLT, Nat.reduceLeDiff, Int.reduceLE, Int.reduceLT, Int.reduceToNat, Int.reduceEq, rightF, if_neg h0, if_neg h15]
      simp only [okF, spanR, oneF, h10, true_or, or_true, if_true, Int.reduceEq, or_self, if_false]
      grind
  refine ⟨fun h12 => ?_, fun h12 => ?_⟩
  · refine callK_1 _ (fun _ => cw112 r _ _ _ _ _) (by simp only [go_sem, ↓reduceIte, Nat.reduceEqDiff, Nat.reduceMul, Nat.reduceAdd, Nat.reduceDiv, Nat.reduceSub, Nat.reduceLT, Nat.reduceLeDiff, Int.reduceLE, Int.reduceLT, Int.reduceToNat, Int.reduceEq]) rfl rfl ?_
    simp only [go_sem, ↓reduceIte, Nat.reduceEqDiff, Nat.reduceMul, Nat.reduceAdd, Nat.reduceDiv, Nat.reduceSub, Nat.reduceLT, Nat.reduceLeDiff, Int.reduceLE, Int.reduceLT, Int.reduceToNat, Int.reduceEq]
    repeat (refine ⟨by (first | omega | (intro h1 h2; exact ⟨h1, h2⟩) | (intro h1; omega) | (intro h1; exact h1) | trivial), ?_⟩)
    refine callK_1 _ (fun _ => cw113 _) (by simp only [go_sem, ↓reduceIte, Nat.reduceEqDiff, Nat.reduceMul, Nat.reduceAdd, Nat.reduceDiv, Nat.reduceSub, Nat.reduceLT, Nat.reduceLeDiff, Int.reduceLE, Int.reduceLT, Int.reduceToNat, Int.reduceEq]) rfl rfl ?_
    simp only [go_sem, ↓reduceIte, Nat.reduceEqDiff, Nat.reduceMul, Nat.reduceAdd, Nat.reduceDiv, Nat.reduceSub, Nat.reduceLT, Nat.reduceLeDiff, Int.reduceLE, Int.reduceLT, Int.reduceToNat, Int.reduceEq]
    repeat (refine ⟨by (first | omega | (intro h1 h2; exact ⟨h1, h2⟩) | (intro h1; omega) | (intro h1; exact h1) | trivial), ?_⟩)
    refine ⟨fun hh => ?_, fun hh => ?_⟩
    all_goals
      apply hQ
      all_goals simp only [go_sem, ↓reduceIte, Nat.reduceEqDiff, Nat.reduceMul, Nat.reduceAdd, Nat.reduceDiv, Nat.reduceSub, Nat.reduceLT, Nat.reduceLeDiff, Int.reduceLE, Int.reduceLT, Int.reduceToNat, Int.reduceEq, rightF, if_neg h0, if_neg h15]
      simp only [okF, spanR, oneF, h12, true_or, or_true, if_true, Int.reduceEq, or_self, if_false]
      grind
  refine callK_1 _ (fun _ => cw112 r _ _ _ _ _) (by simp only [go_sem, ↓reduceIte, Nat.reduceEqDiff, Nat.reduceMul, Nat.reduceAdd, Nat.reduceDiv, Nat.reduceSub, Nat.reduceLT, Nat.reduceLeDiff, Int.reduceLE, Int.reduceLT, Int.reduceToNat, Int.reduceEq]) rfl rfl ?_
  simp only [go_sem, ↓reduceIte, Nat.reduceEqDiff, Nat.reduceMul, Nat.reduceAdd, Nat.reduceDiv, Nat.reduceSub, Nat.reduceLT, Nat.reduceLeDiff, Int.reduceLE, Int.reduceLT, Int.reduceToNat, Int.reduceEq]
  repeat (refine ⟨by (first | omega | (intro h1 h2; exact ⟨h1, h2⟩) | (intro h1; omega) | (intro h1; exact h1) | trivial), ?_⟩)
  refine callK_1 _ (fun _ => cw114 _) (by simp only [go_sem, ↓reduceIte, Nat.reduceEqDiff, Nat.reduceMul, Nat.reduceAdd, Nat.reduceDiv, Nat.reduceSub, Nat.reduceLT, Nat.reduceLeDiff, Int.reduceLE, Int.reduceLT, Int.reduceToNat, Int.reduceEq]) rfl rfl ?_
  simp only [go_sem, ↓reduceIte, Nat.reduceEqDiff, Nat.reduceMul, Nat.reduceAdd, Nat.reduceDiv, Nat.reduceSub, Nat.reduceLT, Nat.reduceLeDiff, Int.reduceLE, Int.reduceLT, Int.reduceToNat, Int.reduceEq]
  repeat (refine ⟨by (first | omega | (intro h1 h2; exact ⟨h1, h2⟩) | (intro h1; omega) | (intro h1; exact h1) | trivial), ?_⟩)
  refine ⟨fun hh => ?_, fun hh => ?_⟩
  all_goals
    apply hQ
    all_goals simp only [go_sem, ↓reduceIte, Nat.reduceEqDiff, Nat.reduceMul, Nat.reduceAdd, Nat.reduceDiv, Nat.reduceSub, Nat.reduceLT, Nat.reduceLeDiff, Int.reduceLE, Int.reduceLT, Int.reduceToNat, Int.reduceEq, rightF, if_neg h0, if_neg h15]
    simp only [okF, spanR, h1, h2, h11, h3, h4, h5, h13, h6, h7, h8, h9, h10, h12, or_self, if_false]
    grind
theorem cw72 (r : Rec) (hn : r.to.length < 9223372036854775808) : CW Try.prog 72 [.cv (Rec.cv r)] ⟨[.cv (.int .i64 (rightF r))], []⟩ :=
  top72 rfl rfl [] trivial (w72 r hn _ fun σ H h => ret1 rfl h)
def clashC (b : Rec) (hi s : Int) : Nat → Int → Bool
  | 0, _ => false
  | k + 1, c => if c ≤ hi then (if speaksF b c = true then true else clashC b hi s k (IntKind.i64.wrap (c + s))) else false
def clashS (a b : Rec) : Int :=
  if a.lo < (if a.lo < b.lo then b.lo else a.lo) then IntKind.i64.wrap (a.lo + IntKind.i64.wrap (IntKind.i64.wrap ((IntKind.i64.wrap (IntKind.i64.wrap (IntKind.i64.wrap ((if a.lo < b.lo then b.lo else a.lo) - a.lo) + stepR a) - 1)).tdiv (stepR a)) * stepR a)) else a.lo
def clashF (a b : Rec) : Bool :=
  if famK a.kind ≠ famK b.kind then false else
  if a.kind = 15 then decide (a.name.data.toList = b.name.data.toList) && decide (a.other.data.toList = b.other.data.toList) || decide (a.name.data.toList = b.other.data.toList) && decide (a.other.data.toList = b.name.data.toList) else
  clashC b (if b.hi < a.hi then b.hi else a.hi) (stepR a) 64 (clashS a b)
theorem w73 (a b : Rec) (ha : a.ok) (hb : b.ok) (ha4 : a.kind = 4 → 1 ≤ a.n) (Q : Ex → Slots → LH → Prop) (hQ : ∀ σ H, Slots.get σ 4 = .c (.bool (clashF a b)) → Q .ret σ H) : rnC Try.prog b73 Q [(0, .c (Rec.cv a)), (1, .c (Rec.cv b))] [] := by
  unfold b73
  simp only [go_sem, ↓reduceIte, Nat.reduceEqDiff, Nat.reduceMul, Nat.reduceAdd, Nat.reduceDiv, Nat.reduceSub, Nat.reduceLT, Nat.reduceLeDiff, Int.reduceLE, Int.reduceLT, Int.reduceToNat, Int.reduceEq]
  refine callK_1 _ (fun _ => cw67 _) (by simp only [go_sem, ↓reduceIte, Nat.reduceEqDiff, Nat.reduceMul, Nat.reduceAdd, Nat.reduceDiv, Nat.reduceSub, Nat.reduceLT, Nat.reduceLeDiff, Int.reduceLE, Int.reduceLT, Int.reduceToNat, Int.reduceEq]) rfl rfl ?_
  simp only [go_sem, ↓reduceIte, Nat.reduceEqDiff, Nat.reduceMul, Nat.reduceAdd, Nat.reduceDiv, Nat.reduceSub, Nat.reduceLT, Nat.reduceLeDiff, Int.reduceLE, Int.reduceLT, Int.reduceToNat, Int.reduceEq]
  repeat (refine ⟨by (first | omega | (intro h1 h2; exact ⟨h1, h2⟩) | (intro h1; omega) | (intro h1; exact h1) | trivial), ?_⟩)
  refine callK_1 _ (fun _ => cw67 _) (by simp only [go_sem, ↓reduceIte, Nat.reduceEqDiff, Nat.reduceMul, Nat.reduceAdd, Nat.reduceDiv, Nat.reduceSub, Nat.reduceLT, Nat.reduceLeDiff, Int.reduceLE, Int.reduceLT, Int.reduceToNat, Int.reduceEq]) rfl rfl ?_
  simp only [go_sem, ↓reduceIte, Nat.reduceEqDiff, Nat.reduceMul, Nat.reduceAdd, Nat.reduceDiv, Nat.reduceSub, Nat.reduceLT, Nat.reduceLeDiff, Int.reduceLE, Int.reduceLT, Int.reduceToNat, Int.reduceEq]
  repeat (refine ⟨by (first | omega | (intro h1 h2; exact ⟨h1, h2⟩) | (intro h1; omega) | (intro h1; exact h1) | trivial), ?_⟩)
  refine ⟨fun h => ?_, fun h => ?_⟩
  · apply hQ
    all_goals simp only [go_sem, ↓reduceIte, Nat.reduceEqDiff, Nat.reduceMul, Nat.reduceAdd, Nat.reduceDiv, Nat.reduceSub, Nat.reduceLT, Nat.reduceLeDiff, Int.reduceLE, Int.reduceLT, Int.reduceToNat, Int.reduceEq, clashF, if_pos h]
  refine ⟨fun h15 => ?_, fun h15 => ?_⟩
  · repeat (refine ⟨by (first | omega | (intro h1 h2; exact ⟨h1, h2⟩) | (intro h1; omega) | (intro h1; exact h1) | trivial), ?_⟩)
    apply hQ
    all_goals simp only [go_sem, ↓reduceIte, Nat.reduceEqDiff, Nat.reduceMul, Nat.reduceAdd, Nat.reduceDiv, Nat.reduceSub, Nat.reduceLT, Nat.reduceLeDiff, Int.reduceLE, Int.reduceLT, Int.reduceToNat, Int.reduceEq]
    unfold clashF
    rw [if_neg (by simpa using h), if_pos h15]
    rw [Bool.beq_eq_decide_eq]
  have hf : clashF a b = clashC b (if b.hi < a.hi then b.hi else a.hi) (stepR a) 64 (clashS a b) := by
    unfold clashF
    rw [if_neg (by simpa using h), if_neg h15]
  refine callK_1 _ (fun _ => cw107 a) (by simp only [go_sem, ↓reduceIte, Nat.reduceEqDiff, Nat.reduceMul, Nat.reduceAdd, Nat.reduceDiv, Nat.reduceSub, Nat.reduceLT, Nat.reduceLeDiff, Int.reduceLE, Int.reduceLT, Int.reduceToNat, Int.reduceEq]) rfl rfl ?_
  simp only [go_sem, ↓reduceIte, Nat.reduceEqDiff, Nat.reduceMul, Nat.reduceAdd, Nat.reduceDiv, Nat.reduceSub, Nat.reduceLT, Nat.reduceLeDiff, Int.reduceLE, Int.reduceLT, Int.reduceToNat, Int.reduceEq]
  repeat (refine ⟨by (first | omega | (intro h1 h2; exact ⟨h1, h2⟩) | (intro h1; omega) | (intro h1; exact h1) | trivial), ?_⟩)
  have hst : ¬ stepR a = 0 := by
    unfold stepR
    have := ha4
    by_cases h4 : a.kind = 4
    · rw [if_pos h4]; have := ha4 h4; split <;> omega
    · rw [if_neg h4]; omega
  refine ⟨fun hs => ⟨hst, ?_⟩, fun hs => ?_⟩
  all_goals
    refine loopZR.by (α := Nat × Int) (fun p => [(3, .ref 128 0), (6, .c (.int .i64 (if b.hi < a.hi then b.hi else a.hi))), (7, .c (.int .i64 (stepR a))), (8, .c (.int .i64 p.2)), (9, .c (.int .i64 p.1))]) (fun _ => [(64, .obj [.c (.int .i64 a.kind), .c (.int .i64 a.lo), .c (.int .i64 a.hi), .c (.int .i64 a.n), .c (.sl 1 (runes a.to)), .c (.str a.name), .c (.str a.other), .c (.flt a.weight)]), (128, .obj [.c (.int .i64 b.kind), .c (.int .i64 b.lo), .c (.int .i64 b.hi), .c (.int .i64 b.n), .c (.sl 1 (runes b.to)), .c (.str b.name), .c (.str b.other), .c (.flt b.weight)])])
      (fun p => 64 - p.1) (fun p => p.1 ≤ 64 ∧ clashC b (if b.hi < a.hi then b.hi else a.hi) (stepR a) (64 - p.1) p.2 = clashF a b) (0, clashS a b) ⟨Nat.zero_le _, hf.symm⟩ ?_ ?_
    · intro Y hY
      simp only [go_sem, ↓reduceIte, Nat.reduceEqDiff, Nat.reduceMul, Nat.reduceAdd, Nat.reduceDiv, Nat.reduceSub, Nat.reduceLT, Nat.reduceLeDiff, Int.reduceLE, Int.reduceLT, Int.reduceToNat, Int.reduceEq]
      have hcs := clashS.eq_1 a b
      first | rw [if_pos hs] at hcs | rw [if_neg (Int.not_lt.2 hs)] at hcs
      dsimp only at hY
      rw [hcs] at hY
      exact hY
    · intro p hk Y hY
      obtain ⟨i, c⟩ := p
      obtain ⟨hk1, hk2⟩ := hk
      simp only at hk1 hk2
      unfold l73_0
      simp only [go_sem, ↓reduceIte, Nat.reduceEqDiff, Nat.reduceMul, Nat.reduceAdd, Nat.reduceDiv, Nat.reduceSub, Nat.reduceLT, Nat.reduceLeDiff, Int.reduceLE, Int.reduceLT, Int.reduceToNat, Int.reduceEq]
      refine ⟨fun hi => ?_, fun hi => hQ _ _ ?_⟩
      · have e : 64 - i = (64 - (i + 1)) + 1 := by omega
        rw [e, clashC, if_pos hi.2] at hk2
        refine callK_1 _ (fun _ => cw68 b _ hb) (by simp only [go_sem, ↓reduceIte, Nat.reduceEqDiff, Nat.reduceMul, Nat.reduceAdd, Nat.reduceDiv, Nat.reduceSub, Nat.reduceLT, Nat.reduceLeDiff, Int.reduceLE, Int.reduceLT, Int.reduceToNat, Int.reduceEq]) rfl rfl ?_
        simp only [go_sem, ↓reduceIte, Nat.reduceEqDiff, Nat.reduceMul, Nat.reduceAdd, Nat.reduceDiv, Nat.reduceSub, Nat.reduceLT, Nat.reduceLeDiff, Int.reduceLE, Int.reduceLT, Int.reduceToNat, Int.reduceEq]
        repeat (refine ⟨by (first | omega | (intro h1 h2; exact ⟨h1, h2⟩) | (intro h1; omega) | (intro h1; exact h1) | trivial), ?_⟩)
        refine ⟨fun h2 => hQ _ _ ?_, fun h2 => ?_⟩
        · simp only [go_sem, ↓reduceIte, Nat.reduceEqDiff, Nat.reduceMul, Nat.reduceAdd, Nat.reduceDiv, Nat.reduceSub, Nat.reduceLT, Nat.reduceLeDiff, Int.reduceLE, Int.reduceLT, Int.reduceToNat, Int.reduceEq]
          rw [← hk2, if_pos h2]
        · rw [if_neg (by rw [h2]; simp)] at hk2
          rw [succ64 (show i < 64 by omega) (by omega)]
          exact hY (i + 1, _) ⟨by simp only; omega, hk2⟩ (by simp only; omega)
      · simp only [go_sem, ↓reduceIte, Nat.reduceEqDiff, Nat.reduceMul, Nat.reduceAdd, Nat.reduceDiv, Nat.reduceSub, Nat.reduceLT, Nat.reduceLeDiff, Int.reduceLE, Int.reduceLT, Int.reduceToNat, Int.reduceEq]
        rw [← hk2]
        rcases Nat.lt_or_ge i 64 with h5 | h5
        · have e : 64 - i = (64 - (i + 1)) + 1 := by omega
          rw [e, clashC, if_neg (by omega)]
        · have e : 64 - i = 0 := by omega
          rw [e, clashC]
theorem cw73 (a b : Rec) (ha : a.ok) (hb : b.ok) (ha4 : a.kind = 4 → 1 ≤ a.n) : CW Try.prog 73 [.cv (Rec.cv a), .cv (Rec.cv b)] ⟨[.cv (.bool (clashF a b))], []⟩ :=
  top73 rfl rfl [] trivial (w73 a b ha hb ha4 _ fun σ H h => ret1 rfl h)
def rightsF : List Rec → Int → Option (Int × Int)
  | [], _ => none
  | r :: l, i => if rightF r ≠ 0 then some (i, rightF r) else rightsF l (i + 1)
def twiceF (l : List Rec) : List Rec → List Rec → Int → Option Int
  | _, [], _ => none
  | p, r :: s, i => if p.any (fun o => clashF o r) = true then some i else twiceF l (p ++ [r]) s (i + 1)
def checkF (l : List Rec) : Int × Int :=
  if 4096 < l.length then (0, 3) else
  match rightsF l 0 with
  | some x => x
  | none =>
    match twiceF l [] l 0 with
    | some i => (i, 62)
    | none => (0, 0)
theorem rightsF_none : ∀ (l : List Rec) (i : Int), rightsF l i = none → ∀ r ∈ l, rightF r = 0
  | [], _, _, r, hr => by cases hr
  | a :: l, i, h, r, hr => by
    unfold rightsF at h
    by_cases e : rightF a = 0
    · rw [if_neg (by simpa using e)] at h
      rcases List.mem_cons.1 hr with rfl | hr
      · exact e
      · exact rightsF_none l _ h r hr
    · rw [if_pos e] at h; cases h
theorem rightF_n {r : Rec} (h : rightF r = 0) (h4 : r.kind = 4) : 1 ≤ r.n := by
  unfold rightF at h
  rw [h4] at h
  simp [famK] at h
  have h := h
  unfold okF at h
  simp [h4] at h
  exact h.1.1.1.2
theorem w51 (l : List Rec) (hl : ∀ r ∈ l, r.ok) (hto : ∀ r ∈ l, r.to.length ≤ 35184372088832) (Q : Ex → Slots → LH → Prop) (hQ : ∀ σ H, Slots.get σ 2 = .c (.int .i64 ((checkF l).1)) → Slots.get σ 3 = .c (.int .i64 ((checkF l).2)) → Q .ret σ H) : rnC Try.prog b51 Q [(0, .c (.sl 8 (recs l)))] [] := by
  unfold b51
  simp only [go_sem, ↓reduceIte, Nat.reduceEqDiff, Nat.reduceMul, Nat.reduceAdd, Nat.reduceDiv, Nat.reduceSub, Nat.reduceLT, Nat.reduceLeDiff, Int.reduceLE, Int.reduceLT, Int.reduceToNat, Int.reduceEq]
  refine ⟨fun h => ?_, fun h => ?_⟩
  · apply hQ
    all_goals
      simp only [go_sem, ↓reduceIte, Nat.reduceEqDiff, Nat.reduceMul, Nat.reduceAdd, Nat.reduceDiv, Nat.reduceSub, Nat.reduceLT, Nat.reduceLeDiff, Int.reduceLE, Int.reduceLT, Int.reduceToNat, Int.reduceEq]
      unfold checkF
      rw [if_pos (by omega)]
  have e0 : checkF l = match rightsF l 0 with
    | some x => x
    | none =>
      match twiceF l [] l 0 with
      | some i => (i, 62)
      | none => (0, 0) := if_neg (by omega)
  rw [e0] at hQ
  refine loopR.by (α := Nat) (fun i => [(0, .c (.sl 8 (recs l))), (4, .c (.int .i64 i))]) (fun i => []) (fun i => l.length - i) (fun i => i ≤ l.length ∧ (rightsF (l.drop i) i = rightsF l 0)) 0 ⟨Nat.zero_le _, rfl⟩ ?_ ?_
  · intro Y hY
    simp only [go_sem, ↓reduceIte, Nat.reduceEqDiff, Nat.reduceMul, Nat.reduceAdd, Nat.reduceDiv, Nat.reduceSub, Nat.reduceLT, Nat.reduceLeDiff, Int.reduceLE, Int.reduceLT, Int.reduceToNat, Int.reduceEq, n51_0]
    exact hY
  intro i hk Y hY
  unfold l51_0
  rcases Nat.lt_or_ge i (l.length) with hlt | hge
  · obtain ⟨r, e, hm, hd⟩ := recs_at hlt
    have hf' := hk.2
    rw [hd, rightsF] at hf'
    simp only [go_sem, ↓reduceIte, Nat.reduceEqDiff, Nat.reduceMul, Nat.reduceAdd, Nat.reduceDiv, Nat.reduceSub, Nat.reduceLT, Nat.reduceLeDiff, Int.reduceLE, Int.reduceLT, Int.reduceToNat, Int.reduceEq, n51_0, e]
    refine ⟨fun _ => ⟨by omega, ?_⟩, fun h => by omega⟩
    refine callK_1 _ (fun _ => cw72 r (by have := hto r hm; omega)) (by simp only [go_sem, ↓reduceIte, Nat.reduceEqDiff, Nat.reduceMul, Nat.reduceAdd, Nat.reduceDiv, Nat.reduceSub, Nat.reduceLT, Nat.reduceLeDiff, Int.reduceLE, Int.reduceLT, Int.reduceToNat, Int.reduceEq]) rfl rfl ?_
    simp only [go_sem, ↓reduceIte, Nat.reduceEqDiff, Nat.reduceMul, Nat.reduceAdd, Nat.reduceDiv, Nat.reduceSub, Nat.reduceLT, Nat.reduceLeDiff, Int.reduceLE, Int.reduceLT, Int.reduceToNat, Int.reduceEq]
    repeat (refine ⟨by (first | omega | (intro h1 h2; exact ⟨h1, h2⟩) | (intro h1; omega) | (intro h1; exact h1) | trivial), ?_⟩)
    rw [succ64 hlt (by omega)]
    refine ⟨fun h1 => ?_, fun h1 => hY (i + 1) ⟨hlt, ?_⟩ (by omega)⟩
    · rw [if_pos h1] at hf'
      rw [← hf'] at hQ
      exact hQ _ _ rfl rfl
    · rw [if_neg (by simpa using h1)] at hf'
      rw [← hf']; simp
  have hlen : i = l.length := by omega
  have hr := hk.2
  rw [hlen, List.drop_length] at hr
  have hright := rightsF_none l 0 hr.symm
  rw [show rightsF l 0 = none from hr.symm] at hQ
  simp only [go_sem, ↓reduceIte, Nat.reduceEqDiff, Nat.reduceMul, Nat.reduceAdd, Nat.reduceDiv, Nat.reduceSub, Nat.reduceLT, Nat.reduceLeDiff, Int.reduceLE, Int.reduceLT, Int.reduceToNat, Int.reduceEq, n51_0]
  refine ⟨fun h => by omega, fun _ => ?_⟩
  clear hk hY hge hlen hr
  refine loopR.by (α := Nat) (fun i => [(0, .c (.sl 8 (recs l))), (6, .c (.int .i64 i))]) (fun i => []) (fun i => l.length - i) (fun i => i ≤ l.length ∧ (twiceF l (l.take i) (l.drop i) i = twiceF l [] l 0)) 0 ⟨Nat.zero_le _, rfl⟩ ?_ ?_
  · intro Y hY
    simp only [go_sem, ↓reduceIte, Nat.reduceEqDiff, Nat.reduceMul, Nat.reduceAdd, Nat.reduceDiv, Nat.reduceSub, Nat.reduceLT, Nat.reduceLeDiff, Int.reduceLE, Int.reduceLT, Int.reduceToNat, Int.reduceEq, n51_1]
    exact hY
  intro i hk Y hY
  unfold l51_1
  rcases Nat.lt_or_ge i (l.length) with hlt | hge
  · obtain ⟨r, e, hm, hd⟩ := recs_at hlt
    have hf' := hk.2
    rw [hd, twiceF] at hf'
    simp only [go_sem, ↓reduceIte, Nat.reduceEqDiff, Nat.reduceMul, Nat.reduceAdd, Nat.reduceDiv, Nat.reduceSub, Nat.reduceLT, Nat.reduceLeDiff, Int.reduceLE, Int.reduceLT, Int.reduceToNat, Int.reduceEq, n51_1, e]
    refine ⟨fun _ => ?_, fun h => by omega⟩
    refine loopR.by (α := Nat) (fun k => [(0, .c (.sl 8 (recs l))), (6, .c (.int .i64 i)), (7, .c (.int .i64 k))]) (fun _ => []) (fun k => i - k)
      (fun k => k ≤ i ∧ ((l.take i).drop k).any (fun o => clashF o r) = (l.take i).any fun o => clashF o r) 0 ⟨Nat.zero_le _, rfl⟩ ?_ ?_
    · intro Z hZ
      simp only [go_sem, ↓reduceIte, Nat.reduceEqDiff, Nat.reduceMul, Nat.reduceAdd, Nat.reduceDiv, Nat.reduceSub, Nat.reduceLT, Nat.reduceLeDiff, Int.reduceLE, Int.reduceLT, Int.reduceToNat, Int.reduceEq, n51_2]
      exact hZ
    intro k hk2 Z hZ
    unfold l51_2
    rcases Nat.lt_or_ge k i with hlt2 | hge2
    · obtain ⟨o, e2, hm2, hd2⟩ := recs_at (show k < l.length by omega)
      have hf2 := hk2.2
      have hd3 : (l.take i).drop k = o :: (l.take i).drop (k + 1) := by
        have h1 : k < (l.take i).length := by rw [List.length_take]; omega
        rw [List.drop_eq_getElem_cons h1]
        congr 1
        rw [List.getElem_take]
        have h2 : l.drop k = l[k] :: l.drop (k + 1) := List.drop_eq_getElem_cons (by omega)
        rw [h2] at hd2
        injection hd2
      rw [hd3, List.any_cons] at hf2
      simp only [go_sem, ↓reduceIte, Nat.reduceEqDiff, Nat.reduceMul, Nat.reduceAdd, Nat.reduceDiv, Nat.reduceSub, Nat.reduceLT, Nat.reduceLeDiff, Int.reduceLE, Int.reduceLT, Int.reduceToNat, Int.reduceEq, n51_2, e, e2]
      refine ⟨fun _ => ?_, fun h => by omega⟩
      repeat (refine ⟨by (first | omega | (intro h1 h2; exact ⟨h1, h2⟩) | (intro h1; omega) | (intro h1; exact h1) | trivial), ?_⟩)
      refine callK_1 _ (fun _ => cw73 o r (hl _ hm2) (hl _ hm) (rightF_n (hright _ hm2))) (by simp only [go_sem, ↓reduceIte, Nat.reduceEqDiff, Nat.reduceMul, Nat.reduceAdd, Nat.reduceDiv, Nat.reduceSub, Nat.reduceLT, Nat.reduceLeDiff, Int.reduceLE, Int.reduceLT, Int.reduceToNat, Int.reduceEq]) rfl rfl ?_
      simp only [go_sem, ↓reduceIte, Nat.reduceEqDiff, Nat.reduceMul, Nat.reduceAdd, Nat.reduceDiv, Nat.reduceSub, Nat.reduceLT, Nat.reduceLeDiff, Int.reduceLE, Int.reduceLT, Int.reduceToNat, Int.reduceEq, e, e2]
      repeat (refine ⟨by (first | omega | (intro h1 h2; exact ⟨h1, h2⟩) | (intro h1; omega) | (intro h1; exact h1) | trivial), ?_⟩)
      rw [succ64 hlt2 (by omega)]
      refine ⟨fun h1 => ?_, fun h1 => hZ (k + 1) ⟨hlt2, ?_⟩ (by omega)⟩
      · rw [h1, Bool.true_or] at hf2
        rw [if_pos hf2.symm] at hf'
        rw [← hf'] at hQ
        exact hQ _ _ rfl rfl
      · rw [h1, Bool.false_or] at hf2
        exact hf2
    · simp only [go_sem, ↓reduceIte, Nat.reduceEqDiff, Nat.reduceMul, Nat.reduceAdd, Nat.reduceDiv, Nat.reduceSub, Nat.reduceLT, Nat.reduceLeDiff, Int.reduceLE, Int.reduceLT, Int.reduceToNat, Int.reduceEq, n51_2]
      refine ⟨fun h => by omega, fun _ => ?_⟩
      have hki : k = i := by omega
      have hf2 := hk2.2
      rw [hki, List.drop_eq_nil_of_le (by rw [List.length_take]; omega), List.any_nil] at hf2
      rw [if_neg (by rw [← hf2]; simp)] at hf'
      rw [succ64 hlt (by omega)]
      refine hY (i + 1) ⟨hlt, ?_⟩ (by omega)
      rw [← hf']
      congr 1
      rw [List.take_add_one, List.getElem?_eq_getElem hlt]
      have h2 : l.drop i = l[i] :: l.drop (i + 1) := List.drop_eq_getElem_cons hlt
      rw [h2] at hd
      injection hd with hd1 hd2
      rw [hd1]; rfl
  · have hlen : i = l.length := by omega
    have hr := hk.2
    rw [hlen, List.drop_length, twiceF] at hr
    rw [← hr] at hQ
    simp only [go_sem, ↓reduceIte, Nat.reduceEqDiff, Nat.reduceMul, Nat.reduceAdd, Nat.reduceDiv, Nat.reduceSub, Nat.reduceLT, Nat.reduceLeDiff, Int.reduceLE, Int.reduceLT, Int.reduceToNat, Int.reduceEq, n51_1]
    refine ⟨fun h => by omega, fun _ => ?_⟩
    exact hQ _ _ rfl rfl
theorem cw51 (l : List Rec) (hl : ∀ r ∈ l, r.ok) (hto : ∀ r ∈ l, r.to.length ≤ 35184372088832) : CW Try.prog 51 [.cv (.sl 8 (recs l))] ⟨[.cv (.int .i64 ((checkF l).1)), .cv (.int .i64 ((checkF l).2))], []⟩ :=
  top51 rfl rfl [] trivial (w51 l hl hto _ fun σ H h h' => ret2 rfl h h')
def seqA : Code → Code
  | .seq a _ => a
  | _ => .skip
def seqB : Code → Code
  | .seq _ b => b
  | _ => .skip
def codeOf (f : Func) : Code := f.body.getD .skip
def opsOf : Code → Array Oper
  | .region _ ops _ => ops
  | _ => #[]
def blkC : Code → Code
  | .block _ c => c
  | _ => .skip
def loopC : Code → Code
  | .loop c => c
  | _ => .skip
def p0 : IC := (.reg [⟨(some 2), 0, none, .mv (.c (.int .i64 0))⟩,
  ⟨(some 3), 0, none, .mv (.c (.int .i64 0))⟩])
theorem chk_p0 : chkC Try.prog Try.f30.ntmps p0 (seqA (codeOf Try.f30)) = true := by decide +kernel
def p1 : IC := (.seq (.reg [⟨(some 13), 0, none, .mv (.t 0)⟩,
  ⟨(some 14), 0, none, .len false (.t 13)⟩,
  ⟨(some 15), 0, none, .bin .gtr (.t 14) (.c (.int .i64 4096))⟩]) (.cond (.t 15) (.seq (.reg [⟨(some 2), 0, none, .mv (.c (.int .i64 0))⟩,
  ⟨(some 3), 0, none, .mv (.c (.int .i64 3))⟩]) .ret) .skip))
theorem chk_p1 : chkC Try.prog Try.f30.ntmps p1 (seqA (seqB (codeOf Try.f30))) = true := by decide +kernel
def l30_0 : IC := (.seq (.reg [⟨(some 19), 0, none, .bin .lss (.t 18) (.t 17)⟩]) (.seq (.cond (.t 19) .skip (.exit 0)) (.seq (.block 1 (.seq (.reg [⟨(some 20), 0, none, .mv (.t 18)⟩,
  ⟨(some 21), 0, none, .ia (.t 16) (.t 18) 8⟩,
  ⟨(some 22), 0, none, .ld (.t 21) (some 8)⟩,
  ⟨(some 5), 1, none, .alloc [(.int .i64 0), (.int .i64 0), (.int .i64 0), (.int .i64 0), .nilsl, (.str ⟨#[]⟩), (.str ⟨#[]⟩), (.flt 0)]⟩,
  ⟨(some 4), 0, none, .mv (.t 20)⟩,
  ⟨none, 0, none, .st (.t 5) (.t 22) (some 8)⟩]) (.seq (.reg [⟨(some 23), 0, none, .ld (.t 5) (some 8)⟩,
  ⟨(some 24), 2, none, .call (.c (.fn 54)) [((.t 23), .plain)]⟩,
  ⟨(some 6), 0, none, .mv (.t 24)⟩]) (.seq (.reg [⟨(some 25), 0, none, .mv (.t 6)⟩,
  ⟨(some 26), 0, none, .bin .neq (.t 25) (.c (.int .i64 0))⟩]) (.cond (.t 26) (.seq (.reg [⟨(some 27), 0, none, .mv (.t 4)⟩,
  ⟨(some 28), 0, none, .mv (.t 6)⟩,
  ⟨(some 2), 0, none, .mv (.t 27)⟩,
  ⟨(some 3), 0, none, .mv (.t 28)⟩]) .ret) .skip))))) (.reg [⟨(some 29), 0, none, .bin .add (.t 18) (.c (.int .i64 1))⟩,
  ⟨(some 18), 0, none, .mv (.t 29)⟩]))))
def n30_0 : Norm := ⟨[(0, .plain), (16, .plain), (17, .plain), (18, .plain)], []⟩
def p2 : IC := (.seq (.reg [⟨(some 16), 0, none, .mv (.t 0)⟩,
  ⟨(some 17), 0, none, .len false (.t 16)⟩,
  ⟨(some 18), 0, none, .mv (.c (.int .i64 0))⟩]) (.block 0 (.loop n30_0 l30_0)))
theorem chk_p2 : chkC Try.prog Try.f30.ntmps p2 (seqA (seqB (seqB (codeOf Try.f30)))) = true := by decide +kernel
def p11 : IC := (.reg [⟨(some 31), 0, none, .mv (.t 0)⟩,
  ⟨(some 32), 0, none, .len false (.t 31)⟩,
  ⟨(some 33), 0, none, .mv (.c (.int .i64 0))⟩])
theorem chk_p11 : chkC Try.prog Try.f30.ntmps p11 (seqA (seqA (seqB (seqB (seqB (seqB (codeOf Try.f30))))))) = true := by decide +kernel
def p12 : IC := (.reg [⟨(some 34), 0, none, .bin .lss (.t 33) (.t 32)⟩])
theorem chk_p12 : chkC Try.prog Try.f30.ntmps p12 (seqA (loopC (blkC (seqB (seqA (seqB (seqB (seqB (seqB (codeOf Try.f30)))))))))) = true := by decide +kernel
def pc : IC := (.cond (.t 34) .skip (.exit 2))
theorem chk_pc : chkC Try.prog Try.f30.ntmps pc (seqA (seqB (loopC (blkC (seqB (seqA (seqB (seqB (seqB (seqB (codeOf Try.f30))))))))))) = true := by decide +kernel
def p13 : IC := (.reg [⟨(some 35), 0, none, .mv (.t 33)⟩,
  ⟨(some 36), 0, none, .ia (.t 31) (.t 33) 8⟩,
  ⟨(some 37), 0, none, .ld (.t 36) (some 8)⟩,
  ⟨(some 9), 12, none, .alloc [(.int .i64 0), (.int .i64 0), (.int .i64 0), (.int .i64 0), .nilsl, (.str ⟨#[]⟩), (.str ⟨#[]⟩), (.flt 0)]⟩,
  ⟨(some 8), 0, none, .mv (.t 35)⟩,
  ⟨none, 0, none, .st (.t 9) (.t 37) (some 8)⟩])
theorem chk_p13 : chkC Try.prog Try.f30.ntmps p13 (seqA (blkC (seqA (seqB (seqB (loopC (blkC (seqB (seqA (seqB (seqB (seqB (seqB (codeOf Try.f30)))))))))))))) = true := by decide +kernel
def p14 : IC := (.reg [⟨(some 38), 0, none, .fa (.t 9) 0⟩,
  ⟨(some 39), 0, none, .ld (.t 38) none⟩,
  ⟨(some 40), 13, none, .call (.c (.fn 28)) [((.t 39), .plain)]⟩,
  ⟨(some 10), 0, none, .mv (.t 40)⟩])
theorem chk_p14 : chkC Try.prog Try.f30.ntmps p14 (seqA (seqB (blkC (seqA (seqB (seqB (loopC (blkC (seqB (seqA (seqB (seqB (seqB (seqB (codeOf Try.f30))))))))))))))) = true := by decide +kernel
def l30_2 : IC := (.seq (.reg [⟨(some 46), 0, none, .bin .lss (.t 45) (.t 44)⟩]) (.seq (.cond (.t 46) .skip (.exit 4)) (.seq (.block 5 (.seq (.reg [⟨(some 47), 0, none, .ia (.t 43) (.t 45) 8⟩,
  ⟨(some 48), 0, none, .ld (.t 47) (some 8)⟩,
  ⟨(some 12), 23, none, .alloc [(.int .i64 0), (.int .i64 0), (.int .i64 0), (.int .i64 0), .nilsl, (.str ⟨#[]⟩), (.str ⟨#[]⟩), (.flt 0)]⟩,
  ⟨none, 0, none, .st (.t 12) (.t 48) (some 8)⟩]) (.seq (.reg [⟨(some 49), 0, none, .mv (.t 10)⟩,
  ⟨(some 50), 0, none, .bin .lss (.t 49) (.c (.int .i64 10))⟩,
  ⟨(some 51), 0, none, .mv (.t 50)⟩,
  ⟨(some 52), 0, (some (51, true)), .ld (.t 12) (some 8)⟩,
  ⟨(some 53), 0, (some (51, true)), .ld (.t 9) (some 8)⟩,
  ⟨(some 54), 24, (some (51, true)), .call (.c (.fn 55)) [((.t 52), .plain), ((.t 53), .plain)]⟩,
  ⟨(some 55), 0, none, .pick (.t 51) (.t 54) (.c (.bool false))⟩,
  ⟨(some 56), 0, none, .mv (.t 55)⟩,
  ⟨(some 57), 0, (some (56, false)), .mv (.t 10)⟩,
  ⟨(some 58), 0, (some (56, false)), .bin .eql (.t 57) (.c (.int .i64 10))⟩,
  ⟨(some 59), 0, (some (56, false)), .mv (.t 58)⟩,
  ⟨(some 60), 0, (some (59, true)), .fa (.t 12) 5⟩,
  ⟨(some 61), 0, (some (59, true)), .ld (.t 60) none⟩,
  ⟨(some 62), 0, (some (59, true)), .fa (.t 9) 5⟩,
  ⟨(some 63), 0, (some (59, true)), .ld (.t 62) none⟩,
  ⟨(some 64), 0, (some (59, true)), .bin .eql (.t 61) (.t 63)⟩,
  ⟨(some 65), 0, (some (59, true)), .mv (.t 64)⟩,
  ⟨(some 66), 0, (some (65, true)), .fa (.t 12) 6⟩,
  ⟨(some 67), 0, (some (65, true)), .ld (.t 66) none⟩,
  ⟨(some 68), 0, (some (65, true)), .fa (.t 9) 6⟩,
  ⟨(some 69), 0, (some (65, true)), .ld (.t 68) none⟩,
  ⟨(some 70), 0, (some (65, true)), .bin .eql (.t 67) (.t 69)⟩,
  ⟨(some 71), 0, (some (59, true)), .pick (.t 65) (.t 70) (.c (.bool false))⟩,
  ⟨(some 72), 0, (some (59, true)), .mv (.t 71)⟩,
  ⟨(some 73), 0, (some (72, false)), .fa (.t 12) 5⟩,
  ⟨(some 74), 0, (some (72, false)), .ld (.t 73) none⟩,
  ⟨(some 75), 0, (some (72, false)), .fa (.t 9) 6⟩,
  ⟨(some 76), 0, (some (72, false)), .ld (.t 75) none⟩,
  ⟨(some 77), 0, (some (72, false)), .bin .eql (.t 74) (.t 76)⟩,
  ⟨(some 78), 0, (some (72, false)), .mv (.t 77)⟩,
  ⟨(some 79), 0, (some (78, true)), .fa (.t 12) 6⟩,
  ⟨(some 80), 0, (some (78, true)), .ld (.t 79) none⟩,
  ⟨(some 81), 0, (some (78, true)), .fa (.t 9) 5⟩,
  ⟨(some 82), 0, (some (78, true)), .ld (.t 81) none⟩,
  ⟨(some 83), 0, (some (78, true)), .bin .eql (.t 80) (.t 82)⟩,
  ⟨(some 84), 0, (some (72, false)), .pick (.t 78) (.t 83) (.c (.bool false))⟩,
  ⟨(some 85), 0, (some (59, true)), .pick (.t 72) (.c (.bool true)) (.t 84)⟩,
  ⟨(some 86), 0, (some (56, false)), .pick (.t 59) (.t 85) (.c (.bool false))⟩,
  ⟨(some 87), 0, none, .pick (.t 56) (.c (.bool true)) (.t 86)⟩]) (.cond (.t 87) (.seq (.reg [⟨(some 88), 0, none, .mv (.t 8)⟩,
  ⟨(some 2), 0, none, .mv (.t 88)⟩,
  ⟨(some 3), 0, none, .mv (.c (.int .i64 62))⟩]) .ret) .skip)))) (.reg [⟨(some 89), 0, none, .bin .add (.t 45) (.c (.int .i64 1))⟩,
  ⟨(some 45), 0, none, .mv (.t 89)⟩]))))
def n30_2 : Norm := ⟨[(7, .plain), (8, .plain), (9, .plain), (10, .plain), (31, .plain), (32, .plain), (33, .plain), (43, .own 8 3000640), (44, .plain), (45, .plain)], [(768, [.plain, .plain, .plain, .plain, .plain, .plain, .plain, .plain])]⟩
def p4 : IC := (.block 4 (.loop n30_2 l30_2))
theorem chk_p4 : chkC Try.prog Try.f30.ntmps p4 (seqB (seqA (seqB (seqB (blkC (seqA (seqB (seqB (loopC (blkC (seqB (seqA (seqB (seqB (seqB (seqB (codeOf Try.f30))))))))))))))))) = true := by decide +kernel
def p22 : IC := (.reg [⟨(some 98), 0, none, .bin .add (.t 33) (.c (.int .i64 1))⟩,
  ⟨(some 33), 0, none, .mv (.t 98)⟩])
theorem chk_p22 : chkC Try.prog Try.f30.ntmps p22 (seqB (seqB (seqB (loopC (blkC (seqB (seqA (seqB (seqB (seqB (seqB (codeOf Try.f30)))))))))))) = true := by decide +kernel
def pe : IC := (.seq (.reg [⟨(some 2), 0, none, .mv (.c (.int .i64 0))⟩,
  ⟨(some 3), 0, none, .mv (.c (.int .i64 0))⟩]) .ret)
theorem chk_pe : chkC Try.prog Try.f30.ntmps pe (seqB (seqB (seqB (seqB (seqB (codeOf Try.f30)))))) = true := by decide +kernel
theorem split30 : codeOf Try.f30 = .seq (seqA (codeOf Try.f30)) (.seq (seqA (seqB (codeOf Try.f30))) (.seq (seqA (seqB (seqB (codeOf Try.f30))))
  (.seq (.region 10 (opsOf (seqA (seqB (seqB (seqB (codeOf Try.f30)))))) false)
  (.seq (.seq (seqA (seqA (seqB (seqB (seqB (seqB (codeOf Try.f30))))))) (.block 2 (.loop (loopC (blkC (seqB (seqA (seqB (seqB (seqB (seqB (codeOf Try.f30))))))))))))
    (seqB (seqB (seqB (seqB (seqB (codeOf Try.f30)))))))))) := by kernel_rfl
theorem split30b : (loopC (blkC (seqB (seqA (seqB (seqB (seqB (seqB (codeOf Try.f30))))))))) = .seq (seqA (loopC (blkC (seqB (seqA (seqB (seqB (seqB (seqB (codeOf Try.f30)))))))))) (.seq (seqA (seqB (loopC (blkC (seqB (seqA (seqB (seqB (seqB (seqB (codeOf Try.f30))))))))))) (.seq (.block 3 (.seq (seqA (blkC (seqA (seqB (seqB (loopC (blkC (seqB (seqA (seqB (seqB (seqB (seqB (codeOf Try.f30)))))))))))))) (.seq (seqA (seqB (blkC (seqA (seqB (seqB (loopC (blkC (seqB (seqA (seqB (seqB (seqB (seqB (codeOf Try.f30)))))))))))))))
  (.seq (.seq (.region 15 (opsOf (seqA (seqA (seqB (seqB (blkC (seqA (seqB (seqB (loopC (blkC (seqB (seqA (seqB (seqB (seqB (seqB (codeOf Try.f30)))))))))))))))))) false) (seqB (seqA (seqB (seqB (blkC (seqA (seqB (seqB (loopC (blkC (seqB (seqA (seqB (seqB (seqB (seqB (codeOf Try.f30))))))))))))))))))
    (.region 21 (opsOf (seqB (seqB (seqB (blkC (seqA (seqB (seqB (loopC (blkC (seqB (seqA (seqB (seqB (seqB (seqB (codeOf Try.f30))))))))))))))))) false))))) (seqB (seqB (seqB (loopC (blkC (seqB (seqA (seqB (seqB (seqB (seqB (codeOf Try.f30)))))))))))))) := by kernel_rfl
def robj (r : Rec) : LObj := .obj [.c (.int .i64 r.kind), .c (.int .i64 r.lo), .c (.int .i64 r.hi), .c (.int .i64 r.n), .c (.sl 1 (runes r.to)), .c (.str r.name), .c (.str r.other), .c (.flt r.weight)]
def clashP (f : Int) (o r : Rec) : Bool :=
  decide (f < 10) && meetR o r || decide (f = 10) && (decide (o.name.data.toList = r.name.data.toList) && decide (o.other.data.toList = r.other.data.toList) || decide (o.name.data.toList = r.other.data.toList) && decide (o.other.data.toList = r.name.data.toList))
def fam (l : List Rec) (f : Int) : List Rec := l.filter fun o => decide (famK o.kind = f)
def rightsP : List Rec → Int → Option (Int × Int)
  | [], _ => none
  | r :: l, i => if rightR r ≠ 0 then some (i, rightR r) else rightsP l (i + 1)
def twiceP : List Rec → List Rec → Int → Option Int
  | _, [], _ => none
  | p, r :: s, i => if (fam p (famK r.kind)).any (fun o => clashP (famK r.kind) o r) = true then some i else twiceP (p ++ [r]) s (i + 1)
def checkP (l : List Rec) : Int × Int :=
  if 4096 < l.length then (0, 3) else
  match rightsP l 0 with
  | some x => x
  | none =>
    match twiceP [] l 0 with
    | some i => (i, 62)
    | none => (0, 0)
theorem rightsP_none : ∀ (l : List Rec) (i : Int), rightsP l i = none → ∀ r ∈ l, rightR r = 0
  | [], _, _, r, hr => by cases hr
  | a :: l, i, h, r, hr => by
    unfold rightsP at h
    by_cases e : rightR a = 0
    · rw [if_neg (by simpa using e)] at h
      rcases List.mem_cons.1 hr with rfl | hr
      · exact e
      · exact rightsP_none l _ h r hr
    · rw [if_pos e] at h; cases h
theorem rightR_n {r : Rec} (h : rightR r = 0) (h4 : r.kind = 4) : 1 ≤ r.n := by
  unfold rightR at h
  rw [h4] at h
  simp [famK] at h
  have h := h.2
  unfold fitsR at h
  simp [h4] at h
  unfold shiftsR at h
  grind
theorem clashP_t {f : Int} {o r : Rec} (h : f < 10 ∧ meetR o r = true ∨ f = 10 ∧ (o.name.data.toList = r.name.data.toList ∧ o.other.data.toList = r.other.data.toList ∨ o.name.data.toList = r.other.data.toList ∧ o.other.data.toList = r.name.data.toList)) : clashP f o r = true := by
  unfold clashP
  simpa using h
theorem clashP_f {f : Int} {o r : Rec} (h : (10 ≤ f ∨ meetR o r = false) ∧ (¬f = 10 ∨ (¬o.name.data.toList = r.name.data.toList ∨ ¬o.other.data.toList = r.other.data.toList) ∧ (¬o.name.data.toList = r.other.data.toList ∨ ¬o.other.data.toList = r.name.data.toList))) : clashP f o r = false := by
  unfold clashP
  grind
theorem wa30_0 (l : List Rec) (Q : Ex → Slots → LH → Prop) (hQ : ∀ σ, Has σ [(0, .c (.sl 8 (recs l)))] → Q .norm σ []) : rnC Try.prog p0 Q [(0, .c (.sl 8 (recs l)))] [] := by
  unfold p0
  simp only [go_sem, ↓reduceIte, Nat.reduceEqDiff, Nat.reduceMul, Nat.reduceAdd, Nat.reduceDiv, Nat.reduceSub, Nat.reduceLT, Nat.reduceLeDiff, Int.reduceLE, Int.reduceLT, Int.reduceToNat, Int.reduceEq]
  exact hQ _ ⟨rfl, trivial⟩
theorem wa30_1 (l : List Rec) (Q : Ex → Slots → LH → Prop) (h1 : 4096 < l.length → ∀ σ H, Has σ [(2, .c (.int .i64 0)), (3, .c (.int .i64 3))] → Q .ret σ H) (h2 : ¬ 4096 < l.length → ∀ σ, Has σ [(0, .c (.sl 8 (recs l)))] → Q .norm σ []) : rnC Try.prog p1 Q [(0, .c (.sl 8 (recs l)))] [] := by
  unfold p1
  simp only [go_sem, ↓reduceIte, Nat.reduceEqDiff, Nat.reduceMul, Nat.reduceAdd, Nat.reduceDiv, Nat.reduceSub, Nat.reduceLT, Nat.reduceLeDiff, Int.reduceLE, Int.reduceLT, Int.reduceToNat, Int.reduceEq]
  refine ⟨fun h => h1 (by omega) _ _ ⟨rfl, rfl, trivial⟩, fun h => h2 (by omega) _ ⟨rfl, trivial⟩⟩
theorem wa30_2 (l : List Rec) (hto : ∀ r ∈ l, r.to.length ≤ 35184372088832) (hn : l.length ≤ 4096) (Q : Ex → Slots → LH → Prop) (h1 : ∀ i e, rightsP l 0 = some (i, e) → ∀ σ H, Has σ [(2, .c (.int .i64 i)), (3, .c (.int .i64 e))] → Q .ret σ H)
    (h2 : rightsP l 0 = none → ∀ σ, Has σ [(0, .c (.sl 8 (recs l)))] → Q .norm σ []) : rnC Try.prog p2 Q [(0, .c (.sl 8 (recs l)))] [] := by
  unfold p2
  simp only [go_sem, ↓reduceIte, Nat.reduceEqDiff, Nat.reduceMul, Nat.reduceAdd, Nat.reduceDiv, Nat.reduceSub, Nat.reduceLT, Nat.reduceLeDiff, Int.reduceLE, Int.reduceLT, Int.reduceToNat, Int.reduceEq]
  refine loopR.by (α := Nat) (fun i => [(0, .c (.sl 8 (recs l))), (16, .c (.sl 8 (recs l))), (17, .c (.int .i64 l.length)), (18, .c (.int .i64 i))]) (fun _ => []) (fun i => l.length - i) (fun i => i ≤ l.length ∧ rightsP (l.drop i) i = rightsP l 0) 0 ⟨Nat.zero_le _, rfl⟩ ?_ ?_
  · intro Y hY
    simp only [go_sem, ↓reduceIte, Nat.reduceEqDiff, Nat.reduceMul, Nat.reduceAdd, Nat.reduceDiv, Nat.reduceSub, Nat.reduceLT, Nat.reduceLeDiff, Int.reduceLE, Int.reduceLT, Int.reduceToNat, Int.reduceEq, n30_0]
    exact hY
  intro i hk Y hY
  unfold l30_0
  rcases Nat.lt_or_ge i l.length with hlt | hge
  · obtain ⟨r, e, hm, hd⟩ := recs_at hlt
    have hf' := hk.2
    rw [hd, rightsP] at hf'
    simp only [go_sem, ↓reduceIte, Nat.reduceEqDiff, Nat.reduceMul, Nat.reduceAdd, Nat.reduceDiv, Nat.reduceSub, Nat.reduceLT, Nat.reduceLeDiff, Int.reduceLE, Int.reduceLT, Int.reduceToNat, Int.reduceEq, n30_0, e]
    refine ⟨fun _ => ⟨by omega, ?_⟩, fun h => by omega⟩
    refine callK_1 _ (fun _ => cw54 r (by have := hto r hm; omega)) (by simp only [go_sem, ↓reduceIte, Nat.reduceEqDiff, Nat.reduceMul, Nat.reduceAdd, Nat.reduceDiv, Nat.reduceSub, Nat.reduceLT, Nat.reduceLeDiff, Int.reduceLE, Int.reduceLT, Int.reduceToNat, Int.reduceEq]) rfl rfl ?_
    simp only [go_sem, ↓reduceIte, Nat.reduceEqDiff, Nat.reduceMul, Nat.reduceAdd, Nat.reduceDiv, Nat.reduceSub, Nat.reduceLT, Nat.reduceLeDiff, Int.reduceLE, Int.reduceLT, Int.reduceToNat, Int.reduceEq]
    repeat (refine ⟨by (first | omega | (intro h1 h2; exact ⟨h1, h2⟩) | (intro h1; omega) | (intro h1; exact h1) | trivial), ?_⟩)
    rw [succ64 hlt (by omega)]
    refine ⟨fun h => ?_, fun h => hY (i + 1) ⟨hlt, ?_⟩ (by omega)⟩
    · rw [if_pos h] at hf'
      exact h1 _ _ hf'.symm _ _ ⟨rfl, rfl, trivial⟩
    · rw [if_neg (by simpa using h)] at hf'
      rw [← hf']; simp
  · have hlen : i = l.length := by omega
    have hr := hk.2
    rw [hlen, List.drop_length] at hr
    simp only [go_sem, ↓reduceIte, Nat.reduceEqDiff, Nat.reduceMul, Nat.reduceAdd, Nat.reduceDiv, Nat.reduceSub, Nat.reduceLT, Nat.reduceLeDiff, Int.reduceLE, Int.reduceLT, Int.reduceToNat, Int.reduceEq, n30_0]
    exact ⟨fun h => by omega, fun _ => h2 hr.symm _ ⟨rfl, trivial⟩⟩
theorem wa30_11 (l : List Rec) (m : Value) (Q : Ex → Slots → LH → Prop) (hQ : ∀ σ, Has σ [(7, .c (.raw m)), (31, .c (.sl 8 (recs l))), (32, .c (.int .i64 l.length)), (33, .c (.int .i64 0))] → Q .norm σ []) : rnC Try.prog p11 Q [(0, .c (.sl 8 (recs l))), (7, .c (.raw m))] [] := by
  unfold p11
  simp only [go_sem, ↓reduceIte, Nat.reduceEqDiff, Nat.reduceMul, Nat.reduceAdd, Nat.reduceDiv, Nat.reduceSub, Nat.reduceLT, Nat.reduceLeDiff, Int.reduceLE, Int.reduceLT, Int.reduceToNat, Int.reduceEq]
  exact hQ _ ⟨rfl, rfl, rfl, rfl, trivial⟩
def s30 (l : List Rec) (m : Value) (i : Nat) : Slots := [(7, .c (.raw m)), (31, .c (.sl 8 (recs l))), (32, .c (.int .i64 l.length)), (33, .c (.int .i64 i))]
theorem wa30_12 (l : List Rec) (m : Value) (i : Nat) (Q : Ex → Slots → LH → Prop) (hQ : ∀ σ, Has σ ((34, .c (.bool (decide ((i : Int) < l.length)))) :: s30 l m i) → Q .norm σ []) : rnC Try.prog p12 Q (s30 l m i) [] := by
  unfold p12 s30
  simp only [go_sem, ↓reduceIte, Nat.reduceEqDiff, Nat.reduceMul, Nat.reduceAdd, Nat.reduceDiv, Nat.reduceSub, Nat.reduceLT, Nat.reduceLeDiff, Int.reduceLE, Int.reduceLT, Int.reduceToNat, Int.reduceEq]
  exact hQ _ ⟨rfl, rfl, rfl, rfl, rfl, trivial⟩
theorem wa30_c (l : List Rec) (m : Value) (i : Nat) (Q : Ex → Slots → LH → Prop) (h1 : i < l.length → ∀ σ, Has σ (s30 l m i) → Q .norm σ []) (h2 : l.length ≤ i → ∀ σ, Has σ (s30 l m i) → Q (.exit 2) σ []) : rnC Try.prog pc Q ((34, .c (.bool (decide ((i : Int) < l.length)))) :: s30 l m i) [] := by
  unfold pc s30
  simp only [go_sem, ↓reduceIte, Nat.reduceEqDiff, Nat.reduceMul, Nat.reduceAdd, Nat.reduceDiv, Nat.reduceSub, Nat.reduceLT, Nat.reduceLeDiff, Int.reduceLE, Int.reduceLT, Int.reduceToNat, Int.reduceEq]
  exact ⟨fun h => h1 (by omega) _ ⟨rfl, rfl, rfl, rfl, trivial⟩, fun h => h2 (by omega) _ ⟨rfl, rfl, rfl, rfl, trivial⟩⟩
theorem wa30_13 (l : List Rec) (m : Value) (i : Nat) (r : Rec) (hi : i < l.length) (e : (recs l).getD i .undef = r.cv) (Q : Ex → Slots → LH → Prop) (h1 : ∀ σ, Has σ ((8, .c (.int .i64 i)) :: (9, .ref 768 0) :: s30 l m i) → Q .norm σ [(768, robj r)]) : rnC Try.prog p13 Q (s30 l m i) [] := by
  unfold p13 s30
  simp only [go_sem, ↓reduceIte, Nat.reduceEqDiff, Nat.reduceMul, Nat.reduceAdd, Nat.reduceDiv, Nat.reduceSub, Nat.reduceLT, Nat.reduceLeDiff, Int.reduceLE, Int.reduceLT, Int.reduceToNat, Int.reduceEq, e]
  exact ⟨by omega, h1 _ ⟨rfl, rfl, rfl, rfl, rfl, rfl, trivial⟩⟩
theorem wa30_14 (l : List Rec) (m : Value) (i : Nat) (r : Rec) (Q : Ex → Slots → LH → Prop) (h1 : ∀ σ, Has σ ((10, .c (.int .i64 (famK r.kind))) :: (8, .c (.int .i64 i)) :: (9, .ref 768 0) :: s30 l m i) → Q .norm σ [(768, robj r)]) : rnC Try.prog p14 Q ((8, .c (.int .i64 i)) :: (9, .ref 768 0) :: s30 l m i) [(768, robj r)] := by
  unfold p14 s30 robj
  simp only [go_sem, ↓reduceIte, Nat.reduceEqDiff, Nat.reduceMul, Nat.reduceAdd, Nat.reduceDiv, Nat.reduceSub, Nat.reduceLT, Nat.reduceLeDiff, Int.reduceLE, Int.reduceLT, Int.reduceToNat, Int.reduceEq]
  refine callK_1 _ (fun _ => cw28 _) (by simp only [go_sem, ↓reduceIte, Nat.reduceEqDiff, Nat.reduceMul, Nat.reduceAdd, Nat.reduceDiv, Nat.reduceSub, Nat.reduceLT, Nat.reduceLeDiff, Int.reduceLE, Int.reduceLT, Int.reduceToNat, Int.reduceEq]) rfl rfl ?_
  simp only [go_sem, ↓reduceIte, Nat.reduceEqDiff, Nat.reduceMul, Nat.reduceAdd, Nat.reduceDiv, Nat.reduceSub, Nat.reduceLT, Nat.reduceLeDiff, Int.reduceLE, Int.reduceLT, Int.reduceToNat, Int.reduceEq]
  repeat (refine ⟨by (first | omega | (intro h1 h2; exact ⟨h1, h2⟩) | (intro h1; omega) | (intro h1; exact h1) | trivial), ?_⟩)
  exact h1 _ ⟨rfl, rfl, rfl, rfl, rfl, rfl, rfl, trivial⟩
def s30b (l : List Rec) (m : Value) (i : Nat) (f : Int) (os : List Rec) : Slots := (43, .osl 3000640 0 os.length) :: (10, .c (.int .i64 f)) :: (8, .c (.int .i64 i)) :: (9, .ref 768 0) :: s30 l m i
def h30b (r : Rec) (os : List Rec) : LH := [(768, robj r), (3000640, .row 8 (recs os))]
theorem wa30_4 (l : List Rec) (m : Value) (i : Nat) (r : Rec) (os : List Rec) (hol : os.length ≤ 4096) (hr : r.ok) (hrr : rightR r = 0) (ho : ∀ o ∈ os, o.ok ∧ rightR o = 0) (Q : Ex → Slots → LH → Prop)
    (h1 : os.any (fun o => clashP (famK r.kind) o r) = true → ∀ σ H, Has σ [(2, .c (.int .i64 i)), (3, .c (.int .i64 62))] → Q .ret σ H) (h2 : os.any (fun o => clashP (famK r.kind) o r) = false → ∀ σ, Has σ (s30b l m i (famK r.kind) os) → Q .norm σ [(3000640, .row 8 (recs os)), (768, robj r)]) :
    rnC Try.prog p4 Q ((45, .c (.int .i64 0)) :: (44, .c (.int .i64 os.length)) :: s30b l m i (famK r.kind) os) (h30b r os) := by
  unfold p4 s30b h30b s30 robj
  simp only [go_sem, ↓reduceIte, Nat.reduceEqDiff, Nat.reduceMul, Nat.reduceAdd, Nat.reduceDiv, Nat.reduceSub, Nat.reduceLT, Nat.reduceLeDiff, Int.reduceLE, Int.reduceLT, Int.reduceToNat, Int.reduceEq]
  refine loopR.by (α := Nat) (fun k => [(7, .c (.raw m)), (8, .c (.int .i64 i)), (9, .ref 768 0), (10, .c (.int .i64 (famK r.kind))), (31, .c (.sl 8 (recs l))), (32, .c (.int .i64 l.length)), (33, .c (.int .i64 i)), (43, .osl 3000640 0 os.length), (44, .c (.int .i64 os.length)), (45, .c (.int .i64 k))])
    (fun _ => [(3000640, .row 8 (recs os)), (768, .obj [.c (.int .i64 r.kind), .c (.int .i64 r.lo), .c (.int .i64 r.hi), .c (.int .i64 r.n), .c (.sl 1 (runes r.to)), .c (.str r.name), .c (.str r.other), .c (.flt r.weight)])]) (fun k => os.length - k)
    (fun k => k ≤ os.length ∧ (os.drop k).any (fun o => clashP (famK r.kind) o r) = os.any fun o => clashP (famK r.kind) o r) 0 ⟨Nat.zero_le _, rfl⟩ ?_ ?_
  · intro Y hY
    simp only [go_sem, ↓reduceIte, Nat.reduceEqDiff, Nat.reduceMul, Nat.reduceAdd, Nat.reduceDiv, Nat.reduceSub, Nat.reduceLT, Nat.reduceLeDiff, Int.reduceLE, Int.reduceLT, Int.reduceToNat, Int.reduceEq, n30_2]
    exact ⟨by simp, hY⟩
  intro k hk Y hY
  unfold l30_2
  rcases Nat.lt_or_ge k os.length with hlt | hge
  · obtain ⟨o, e, hm, hd⟩ := recs_at hlt
    have hf' := hk.2
    rw [hd, List.any_cons] at hf'
    simp only [go_sem, ↓reduceIte, Nat.reduceEqDiff, Nat.reduceMul, Nat.reduceAdd, Nat.reduceDiv, Nat.reduceSub, Nat.reduceLT, Nat.reduceLeDiff, Int.reduceLE, Int.reduceLT, Int.reduceToNat, Int.reduceEq, n30_2, e]
    refine ⟨fun _ => ?_, fun h => by omega⟩
    repeat (refine ⟨by (first | omega | (intro h1 h2; exact ⟨h1, h2⟩) | (intro h1; omega) | (intro h1; exact h1) | trivial), ?_⟩)
    refine callK_1 _ (fun _ => cw55 o r (ho o hm).1 hr (rightR_n (ho o hm).2) (rightR_n hrr)) (by simp only [go_sem, ↓reduceIte, Nat.reduceEqDiff, Nat.reduceMul, Nat.reduceAdd, Nat.reduceDiv, Nat.reduceSub, Nat.reduceLT, Nat.reduceLeDiff, Int.reduceLE, Int.reduceLT, Int.reduceToNat, Int.reduceEq]) rfl rfl ?_
    simp only [go_sem, ↓reduceIte, Nat.reduceEqDiff, Nat.reduceMul, Nat.reduceAdd, Nat.reduceDiv, Nat.reduceSub, Nat.reduceLT, Nat.reduceLeDiff, Int.reduceLE, Int.reduceLT, Int.reduceToNat, Int.reduceEq, e]
    repeat (refine ⟨by (first | omega | (intro h1 h2; exact ⟨h1, h2⟩) | (intro h1; omega) | (intro h1; exact h1) | trivial), ?_⟩)
    rw [succ64 hlt (by omega)]
    refine ⟨fun hh => ?_, fun hh => ?_⟩
    · refine h1 ?_ _ _ ⟨rfl, rfl, trivial⟩
      rw [← hf']
      have : clashP (famK r.kind) o r = true := clashP_t hh
      rw [this, Bool.true_or]
    · refine ⟨by simp, hY (k + 1) ⟨hlt, ?_⟩ (by omega)⟩
      have : clashP (famK r.kind) o r = false := clashP_f hh
      rw [← hf', this, Bool.false_or]
  · have hlen : k = os.length := by omega
    have hr := hk.2
    rw [hlen, List.drop_length] at hr
    simp only [go_sem, ↓reduceIte, Nat.reduceEqDiff, Nat.reduceMul, Nat.reduceAdd, Nat.reduceDiv, Nat.reduceSub, Nat.reduceLT, Nat.reduceLeDiff, Int.reduceLE, Int.reduceLT, Int.reduceToNat, Int.reduceEq, n30_2]
    exact ⟨fun h => by omega, fun _ => h2 hr.symm _ ⟨rfl, rfl, rfl, rfl, rfl, rfl, rfl, rfl, trivial⟩⟩
theorem wa30_22 (l : List Rec) (m : Value) (i : Nat) (hi : i < l.length) (hn : l.length ≤ 4096) (Q : Ex → Slots → LH → Prop) (h1 : ∀ σ, Has σ (s30 l m (i + 1)) → Q .norm σ []) : rnC Try.prog p22 Q (s30 l m i) [] := by
  unfold p22 s30
  simp only [go_sem, ↓reduceIte, Nat.reduceEqDiff, Nat.reduceMul, Nat.reduceAdd, Nat.reduceDiv, Nat.reduceSub, Nat.reduceLT, Nat.reduceLeDiff, Int.reduceLE, Int.reduceLT, Int.reduceToNat, Int.reduceEq]
  rw [succ64 hi (by omega)]
  exact h1 _ ⟨rfl, rfl, rfl, rfl, trivial⟩
theorem wa30_e (Q : Ex → Slots → LH → Prop) (h1 : ∀ σ, Has σ [(2, .c (.int .i64 0)), (3, .c (.int .i64 0))] → Q .ret σ []) : rnC Try.prog pe Q [] [] := by
  unfold pe
  simp only [go_sem, ↓reduceIte, Nat.reduceEqDiff, Nat.reduceMul, Nat.reduceAdd, Nat.reduceDiv, Nat.reduceSub, Nat.reduceLT, Nat.reduceLeDiff, Int.reduceLE, Int.reduceLT, Int.reduceToNat, Int.reduceEq]
  exact h1 _ ⟨rfl, rfl, trivial⟩
def l65_0 : IC := (.seq (.reg [⟨(some 52), 0, none, .bin .lss (.t 51) (.t 50)⟩]) (.seq (.cond (.t 52) .skip (.exit 0)) (.seq (.block 1 (.seq (.reg [⟨(some 53), 0, none, .ia (.t 49) (.t 51) 2⟩,
  ⟨(some 54), 0, none, .ld (.t 53) (some 2)⟩,
  ⟨(some 6), 13, none, .alloc [.nilfn, .nilfn]⟩,
  ⟨none, 0, none, .st (.t 6) (.t 54) (some 2)⟩]) (.reg [⟨(some 55), 0, none, .fa (.t 6) 1⟩,
  ⟨(some 56), 0, none, .ld (.t 55) none⟩,
  ⟨(some 57), 0, none, .mv (.t 0)⟩,
  ⟨(some 58), 14, none, .call (.t 56) [((.t 57), .ptr [none, none, none]), ((.t 3), .ptr [none, none, none, none, some 1, none, none, none])]⟩]))) (.reg [⟨(some 59), 0, none, .bin .add (.t 51) (.c (.int .i64 1))⟩,
  ⟨(some 51), 0, none, .mv (.t 59)⟩]))))
def n65_0 : Norm := ⟨[(0, .plain), (2, .plain), (3, .plain), (49, .own 2 1000049), (50, .plain), (51, .plain)], [(3000000, [.plain, .plain, .plain]), (64, [.plain, .plain, .plain, .plain, .plain, .plain, .plain, .plain]), (128, [.plain, .plain, .plain, .plain, .own 1 1000104, .plain, .plain, .plain])]⟩
def b65 : IC := (.seq (.reg [⟨(some 2), 1, none, .alloc [(.int .i64 0), (.int .i64 0), (.int .i64 0), (.int .i64 0), .nilsl, (.str ⟨#[]⟩), (.str ⟨#[]⟩), (.flt 0)]⟩]) (.seq (.seq (.draw (.take 0 ⟨(some 7), 0, none, .mv (.t 0)⟩ (.take 1 ⟨(some 8), 0, none, .nck (.t 7)⟩ (.take 2 ⟨(some 9), 0, none, .fa (.t 8) 1⟩ (.take 3 ⟨(some 10), 0, none, .ld (.t 9) none⟩ (.take 4 ⟨(some 11), 0, none, .mv (.t 0)⟩ (.take 5 ⟨(some 12), 0, none, .nck (.t 11)⟩ (.take 6 ⟨(some 13), 0, none, .fa (.t 12) 0⟩ (.take 7 ⟨(some 14), 0, none, .ld (.t 13) none⟩ (.take 8 ⟨(some 15), 0, none, .len false (.t 14)⟩ (.take 9 ⟨(some 16), 0, none, .bin .eql (.t 10) (.t 15)⟩ .done))))))))))) (.cond (.t 16) (.seq (.reg [⟨(some 17), 0, none, .mv (.t 0)⟩,
  ⟨(some 18), 0, none, .nck (.t 17)⟩,
  ⟨(some 19), 0, none, .fa (.t 18) 2⟩,
  ⟨none, 0, none, .st (.t 19) (.c (.int .i64 10)) none⟩]) (.seq (.reg [⟨(some 20), 0, none, .bld [(.int .i64 0), (.int .i64 0), (.int .i64 0), (.int .i64 0), .nilsl, (.str ⟨#[]⟩), (.str ⟨#[]⟩), (.flt 0)] []⟩,
  ⟨none, 0, none, .st (.t 2) (.t 20) (some 8)⟩]) .ret)) .skip)) (.seq (.draw (.take 0 ⟨(some 21), 0, none, .mv (.t 0)⟩ (.take 1 ⟨(some 22), 0, none, .nck (.t 21)⟩ (.take 2 ⟨(some 23), 0, none, .fa (.t 22) 0⟩ (.take 3 ⟨(some 24), 0, none, .ld (.t 23) none⟩ (.take 4 ⟨(some 25), 0, none, .mv (.t 0)⟩ (.take 5 ⟨(some 26), 0, none, .nck (.t 25)⟩ (.take 6 ⟨(some 27), 0, none, .fa (.t 26) 1⟩ (.take 7 ⟨(some 28), 0, none, .ld (.t 27) none⟩ (.take 8 ⟨(some 29), 0, none, .ia (.t 24) (.t 28) 1⟩ (.take 9 ⟨(some 30), 0, none, .ld (.t 29) none⟩ (.take 10 ⟨(some 31), 0, none, .conv .i64 (.t 30)⟩ (.take 11 ⟨(some 32), 0, none, .bld [(.int .i64 0), (.int .i64 0), (.int .i64 0), (.int .i64 0), .nilsl, (.str ⟨#[]⟩), (.str ⟨#[]⟩), (.flt 0)] [(0, (.t 31))]⟩ (.br 12 ⟨(some 3), 2, none, .alloc [(.int .i64 0), (.int .i64 0), (.int .i64 0), (.int .i64 0), .nilsl, (.str ⟨#[]⟩), (.str ⟨#[]⟩), (.flt 0)]⟩ [true, true, true, true, true, true, true, true, true, true, true, true] (.br 13 ⟨none, 0, none, .st (.t 3) (.t 32) (some 8)⟩ [false, false, false, false, false, false, false, false, false, false, false, false] .done .no) .no)))))))))))))) (.seq (.reg [⟨(some 33), 0, none, .fa (.t 3) 0⟩,
  ⟨(some 34), 0, none, .ld (.t 33) none⟩,
  ⟨(some 35), 3, none, .call (.c (.fn 57)) [((.t 34), .plain)]⟩,
  ⟨(some 4), 0, none, .mv (.t 35)⟩]) (.seq (.seq (.reg [⟨(some 36), 0, none, .mv (.t 4)⟩,
  ⟨(some 37), 0, none, .isnil (.t 36) false⟩]) (.cond (.t 37) (.seq (.reg [⟨(some 38), 0, none, .mv (.t 0)⟩,
  ⟨(some 39), 0, none, .nck (.t 38)⟩,
  ⟨(some 40), 0, none, .fa (.t 39) 2⟩,
  ⟨none, 0, none, .st (.t 40) (.c (.int .i64 60)) none⟩]) (.seq (.reg [⟨(some 41), 0, none, .bld [(.int .i64 0), (.int .i64 0), (.int .i64 0), (.int .i64 0), .nilsl, (.str ⟨#[]⟩), (.str ⟨#[]⟩), (.flt 0)] []⟩,
  ⟨none, 0, none, .st (.t 2) (.t 41) (some 8)⟩]) .ret)) .skip)) (.seq (.reg [⟨(some 42), 0, none, .mv (.t 0)⟩,
  ⟨(some 43), 0, none, .nck (.t 42)⟩,
  ⟨(some 44), 0, none, .fa (.t 43) 1⟩,
  ⟨(some 45), 0, none, .ld (.t 44) none⟩,
  ⟨(some 46), 0, none, .bin .add (.t 45) (.c (.int .i64 1))⟩,
  ⟨(some 47), 0, none, .nck (.t 42)⟩,
  ⟨(some 48), 0, none, .fa (.t 47) 1⟩,
  ⟨none, 0, none, .st (.t 48) (.t 46) none⟩]) (.seq (.seq (.reg [⟨(some 49), 0, none, .mv (.t 4)⟩,
  ⟨(some 50), 0, none, .len false (.t 49)⟩,
  ⟨(some 51), 0, none, .mv (.c (.int .i64 0))⟩]) (.block 0 (.loop n65_0 l65_0))) (.seq (.pubc 3 4 (.reg [⟨(some 60), 0, none, .ld (.t 3) (some 8)⟩,
  ⟨none, 0, none, .st (.t 2) (.t 60) (some 8)⟩])) .ret))))))))
def rs65 : List (Nat × Option Nat × Mode) := [(2, some 8, .plain)]
theorem chk65 : chkC Try.prog Try.f65.ntmps b65 (Try.f65.body.getD .skip) = true := by decide +kernel
theorem top65 {args : List Arg} {out : Out} (ha : args.length.ble Try.f65.ntmps = true) (h8 : args.length.ble 8 = true) (mss : List (List (Option Nat))) (hb : backOK args out.back)
    (hw : rnC Try.prog b65 (topQ rs65 args mss out) (slotsOf (argsAV argBase args 0) 0) (argsOb argBase args 0)) : CW Try.prog 65 args out :=
  CW.of Try.func65 rs65 mss (by decide +kernel) (by decide +kernel) (by decide +kernel) ha h8 chk65 hb hw
def readF (f : Nat) (b : List UInt8) (s : Int × Int) (r : Rec) : (Int × Int) × Rec :=
  if f = 82 then rLo b s r else if f = 85 then rHi b s r else if f = 87 then rN b s r else if f = 89 then rOne b s r else
  if f = 91 then rList b s r else if f = 94 then rName b s r else if f = 97 then rOther b s r else rWt b s r
theorem parts8_mem {k : Int} {p : Nat × Nat} (h : p ∈ parts8 k) : p = (81, 82) ∨ p = (84, 85) ∨ p = (86, 87) ∨ p = (88, 89) ∨ p = (90, 91) ∨ p = (92, 94) ∨ p = (96, 97) ∨ p = (98, 100) := by
  unfold parts8 at h
  (repeat' split at h) <;> simp at h <;> grind
theorem cwRead {k : Int} {p : Nat × Nat} (h : p ∈ parts8 k) (b : List UInt8) (s : Int × Int) (r : Rec) (hb : b.length < 1000000000000000) (hs : 0 ≤ s.1 ∧ s.1 ≤ b.length) (hto : r.to.length ≤ 1000) :
    CW Try.prog p.2 [rdA b s, recA r] ⟨[], [rdB b (readF p.2 b s r).1, recB (readF p.2 b s r).2]⟩ := by
  rcases parts8_mem h with h | h | h | h | h | h | h | h <;> subst h
  · exact cw82 b s r hb hs
  · exact cw85 b s r hb hs
  · exact cw87 b s r hb hs
  · exact cw89 b s r hb hs
  · exact cw91 b s r hb hs hto
  · exact cw94 b s r hb hs
  · exact cw97 b s r hb hs
  · exact cw100 b s r hb hs
theorem rdT_at {b : List UInt8} {a most : Int} (h : (rdT b a most).2.2 = 0) : 0 ≤ (rdT b a most).2.1 ∧ (rdT b a most).2.1 ≤ b.length := by
  unfold rdT at h ⊢
  by_cases h1 : (a < 0 ∨ (b.length : Int) < a) ∨ most < 0
  · rw [if_pos h1] at h; simp at h
  rw [if_neg h1] at h ⊢
  by_cases h2 : (rdU b a).2.2 ≠ 0
  · rw [if_pos h2] at h; exact absurd h h2
  rw [if_neg h2] at h ⊢
  by_cases h3 : most < (rdU b a).1
  · rw [if_pos h3] at h; simp at h
  rw [if_neg h3] at h ⊢
  by_cases h4 : (b.length : Int) - (rdU b a).2.1 < (rdU b a).1
  · rw [if_pos h4] at h; simp at h
  rw [if_neg h4]
  have := (rdU_spec b a).1 (Decidable.of_not_not h2)
  simp only
  omega
theorem textP_at {b : List UInt8} {s : Int × Int} (hs : 0 ≤ s.1 ∧ s.1 ≤ b.length) : 0 ≤ (textP b s).2.1 ∧ (textP b s).2.1 ≤ b.length := by
  unfold textP
  split
  · exact hs
  · simp only
    split
    · rename_i h
      exact rdT_at h
    · exact hs
theorem fltP_at {b : List UInt8} {s : Int × Int} (hs : 0 ≤ s.1 ∧ s.1 ≤ b.length) : 0 ≤ (fltP b s).2.1 ∧ (fltP b s).2.1 ≤ b.length := by
  unfold fltP
  split
  · exact hs
  · simp only
    split
    · rename_i h
      unfold rdF at h ⊢
      split at h
      · simp at h
      · split at h
        · simp at h
        · rename_i h1 h2
          rw [if_neg h1, if_neg h2]
          simp only
          omega
    · exact hs
theorem listP_at {b : List UInt8} : ∀ (k : Nat) (s : Int × Int) (to : List Int), (0 ≤ s.1 ∧ s.1 ≤ b.length) → 0 ≤ (listP b k s to).1.1 ∧ (listP b k s to).1.1 ≤ b.length
  | 0, s, to, hs => hs
  | k + 1, s, to, hs => by
    rw [listP]
    split
    · exact hs
    · exact listP_at k _ _ (numP_at hs)
theorem listP_len {b : List UInt8} : ∀ (k : Nat) (s : Int × Int) (to : List Int), (listP b k s to).2.length ≤ to.length + k
  | 0, s, to => Nat.le_refl _
  | k + 1, s, to => by
    rw [listP]
    split
    · simp
    · have := listP_len (b := b) k (numP b 1114111 s).2 (to ++ [IntKind.i32.wrap (numP b 1114111 s).1])
      simp only [List.length_append, List.length_singleton] at this
      omega
theorem listP_bad {b : List UInt8} {s : Int × Int} (h : s.2 ≠ 0) (to : List Int) : ∀ k, listP b k s to = (s, to)
  | 0 => rfl
  | k + 1 => by rw [listP, if_pos h]
def Rec.fine (r : Rec) : Prop := r.ok ∧ r.weight < 18446744073709551616
theorem wrap_ok (x : Int) : i64ok (IntKind.i64.wrap x) := by unfold i64ok; rw [wrap_i64]; omega
theorem wrap_ok32 (x : Int) : i32ok (IntKind.i32.wrap x) := by unfold i32ok; rw [wrap_i32]; omega
theorem listP_ok {b : List UInt8} : ∀ (k : Nat) (s : Int × Int) (to : List Int), (∀ c ∈ to, i32ok c) → ∀ c ∈ (listP b k s to).2, i32ok c
  | 0, s, to, h => h
  | k + 1, s, to, h => by
    rw [listP]
    split
    · exact h
    · refine listP_ok k _ _ fun c hc => ?_
      rcases List.mem_append.1 hc with hc | hc
      · exact h c hc
      · rw [List.mem_singleton.1 hc]; exact wrap_ok32 _
theorem readF_spec {k : Int} {p : Nat × Nat} (h : p ∈ parts8 k) (b : List UInt8) (s : Int × Int) (r : Rec) (hs : 0 ≤ s.1 ∧ s.1 ≤ b.length) (hr : r.fine) :
    (0 ≤ (readF p.2 b s r).1.1 ∧ (readF p.2 b s r).1.1 ≤ b.length) ∧ (readF p.2 b s r).2.to.length ≤ r.to.length + 24 ∧ (readF p.2 b s r).2.fine := by
  obtain ⟨⟨o1, o2, o3, o4, o5⟩, o6⟩ := hr
  have hn := @numP_val b 1114111 s
  have hi : i64ok (numP b 1114111 s).1 := by unfold i64ok; omega
  rcases parts8_mem h with h | h | h | h | h | h | h | h <;> subst h
  · exact ⟨numP_at hs, Nat.le_add_right _ _, ⟨o1, hi, hi, o4, o5⟩, o6⟩
  · exact ⟨numP_at hs, Nat.le_add_right _ _, ⟨o1, o2, wrap_ok _, o4, o5⟩, o6⟩
  · exact ⟨numP_at hs, Nat.le_add_right _ _, ⟨o1, o2, o3, hi, o5⟩, o6⟩
  · exact ⟨numP_at hs, by show 1 ≤ _; omega, ⟨o1, o2, o3, o4, fun c hc => by rw [List.mem_singleton.1 hc]; exact wrap_ok32 _⟩, o6⟩
  · refine ⟨listP_at _ _ _ (numP_at hs), ?_, ⟨o1, o2, o3, o4, listP_ok _ _ _ o5⟩, o6⟩
    show (listP b (numP b 24 s).1.toNat (numP b 24 s).2 r.to).2.length ≤ _
    have h24 := @numP_val b 24 s
    by_cases he : (numP b 24 s).2.2 = 0
    · have := listP_len (b := b) (numP b 24 s).1.toNat (numP b 24 s).2 r.to
      have := h24.2.2 he (by decide)
      omega
    · rw [listP_bad he]; exact Nat.le_add_right _ _
  · exact ⟨textP_at hs, Nat.le_add_right _ _, ⟨o1, o2, o3, o4, o5⟩, o6⟩
  · exact ⟨textP_at hs, Nat.le_add_right _ _, ⟨o1, o2, o3, o4, o5⟩, o6⟩
  · refine ⟨fltP_at hs, Nat.le_add_right _ _, ⟨o1, o2, o3, o4, o5⟩, ?_⟩
    show (fltP b s).1 < _
    unfold fltP
    split
    · simp
    · unfold rdF
      split
      · simp
      · split
        · simp
        · have := leV_lt (cutL b s.1 8)
          have h8 : (cutL b s.1 8).length ≤ 8 := by unfold cutL; rw [List.length_take]; exact Nat.min_le_left _ _
          have := Nat.pow_le_pow_right (show 0 < 256 by decide) h8
          have e : (256 : Nat) ^ 8 = 18446744073709551616 := by decide
          simp only
          omega
def readsF (b : List UInt8) : List (Nat × Nat) → (Int × Int) → Rec → (Int × Int) × Rec
  | [], s, r => (s, r)
  | p :: l, s, r => readsF b l (readF p.2 b s r).1 (readF p.2 b s r).2
def zeroR (k : Int) : Rec := ⟨k, 0, 0, 0, [], ⟨#[]⟩, ⟨#[]⟩, 0⟩
def zeroN : CV := .agg [.int .i64 0, .int .i64 0, .int .i64 0, .int .i64 0, .nilsl, .str ⟨#[]⟩, .str ⟨#[]⟩, .flt 0]
def kindAt (b : List UInt8) (a : Int) : Int := ((b.getD a.toNat 0).toNat : Int)
theorem w65 (b : List UInt8) (a : Int) (hb : b.length < 1000000000000000) (hs : 0 ≤ a ∧ a ≤ b.length) (Q : Ex → Slots → LH → Prop)
    (hend : a = b.length → ∀ σ H, Slots.get σ 2 = .ref 64 0 → LH.get H 64 = some (.obj [.c (.int .i64 0), .c (.int .i64 0), .c (.int .i64 0), .c (.int .i64 0), .c .nilsl, .c (.str ⟨#[]⟩), .c (.str ⟨#[]⟩), .c (.flt 0)]) → LH.get H 3000000 = some (rdH b (a, 10)) → Q .ret σ H)
    (hkind : a < b.length → parts8 (kindAt b a) = [] → ∀ σ H, Slots.get σ 2 = .ref 64 0 → LH.get H 64 = some (.obj [.c (.int .i64 0), .c (.int .i64 0), .c (.int .i64 0), .c (.int .i64 0), .c .nilsl, .c (.str ⟨#[]⟩), .c (.str ⟨#[]⟩), .c (.flt 0)]) → LH.get H 3000000 = some (rdH b (a, 60)) → Q .ret σ H)
    (hok : a < b.length → parts8 (kindAt b a) ≠ [] → ∀ σ H, Slots.get σ 2 = .ref 64 0 →
      LH.get H 64 = some (robj (readsF b (parts8 (kindAt b a)) (a + 1, 0) (zeroR (kindAt b a))).2) → LH.get H 3000000 = some (rdH b (readsF b (parts8 (kindAt b a)) (a + 1, 0) (zeroR (kindAt b a))).1) → Q .ret σ H) :
    rnC Try.prog b65 Q [(0, .ref 3000000 0)] [(3000000, rdH b (a, 0))] := by
  unfold b65 rdH
  rcases Int.lt_or_eq_of_le hs.2 with hlt | heq
  · have eb := bys_at (l := b) (k := a.toNat) (by omega)
    have hk : kindAt b a = (b[a.toNat]'(by omega)).toNat := by unfold kindAt; rw [List.getD_eq_getElem?_getD, List.getElem?_eq_getElem (by omega)]; rfl
    have hc := (b[a.toNat]'(by omega)).toNat_lt
    have e1 : IntKind.i64.wrap ((b[a.toNat]'(by omega)).toNat : Int) = kindAt b a := by rw [hk, wrap_i64]; omega
    simp only [go_sem, ↓reduceIte, Nat.reduceEqDiff, Nat.reduceMul, Nat.reduceAdd, Nat.reduceDiv, Nat.reduceSub, Nat.reduceLT, Nat.reduceLeDiff, Int.reduceLE, Int.reduceLT, Int.reduceToNat, Int.reduceEq, eb, e1]
    refine ⟨fun h => by omega, fun _ => ⟨by omega, by omega, ?_⟩⟩
    clear e1 eb
    by_cases hp : parts8 (kindAt b a) = []
    · refine callK_1 _ (fun _ => cw57n (kindAt b a) (parts8_nil hp)) (by simp only [go_sem, ↓reduceIte, Nat.reduceEqDiff, Nat.reduceMul, Nat.reduceAdd, Nat.reduceDiv, Nat.reduceSub, Nat.reduceLT, Nat.reduceLeDiff, Int.reduceLE, Int.reduceLT, Int.reduceToNat, Int.reduceEq]) rfl rfl ?_
      simp only [go_sem, ↓reduceIte, Nat.reduceEqDiff, Nat.reduceMul, Nat.reduceAdd, Nat.reduceDiv, Nat.reduceSub, Nat.reduceLT, Nat.reduceLeDiff, Int.reduceLE, Int.reduceLT, Int.reduceToNat, Int.reduceEq]
      exact hkind hlt hp _ _ rfl rfl rfl
    have hlen : (fcv (parts8 (kindAt b a))).length = (parts8 (kindAt b a)).length := by simp [fcv]
    have hpos : (parts8 (kindAt b a)).length ≠ 0 := fun h => hp (List.length_eq_zero_iff.1 h)
    have hok' := hok hlt hp
    have h4 : (parts8 (kindAt b a)).length ≤ 4 := by unfold parts8; (repeat' split) <;> simp
    refine callK_O 2 (fcv (parts8 (kindAt b a))) (fun _ => cw57 (kindAt b a)) (by simp only [go_sem, ↓reduceIte, Nat.reduceEqDiff, Nat.reduceMul, Nat.reduceAdd, Nat.reduceDiv, Nat.reduceSub, Nat.reduceLT, Nat.reduceLeDiff, Int.reduceLE, Int.reduceLT, Int.reduceToNat, Int.reduceEq]) rfl rfl ?_
    simp only [go_sem, ↓reduceIte, Nat.reduceEqDiff, Nat.reduceMul, Nat.reduceAdd, Nat.reduceDiv, Nat.reduceSub, Nat.reduceLT, Nat.reduceLeDiff, Int.reduceLE, Int.reduceLT, Int.reduceToNat, Int.reduceEq]
    repeat (refine ⟨by (first | omega | (intro h1 h2; exact ⟨h1, h2⟩) | (intro h1; omega) | (intro h1; exact h1) | trivial), ?_⟩)
    have e0 : IntKind.i64.wrap (a + 1) = a + 1 := by rw [wrap_i64]; omega
    rw [e0, hlen]
    have hmem : ∀ p ∈ parts8 (kindAt b a), p ∈ parts8 (kindAt b a) := fun _ h => h
    clear hend hkind hok
    generalize hL : parts8 (kindAt b a) = L at *
    refine loopR.by (α := Nat × (Int × Int) × Rec) (fun p => [(0, .ref 3000000 0), (2, .ref 64 0), (3, .ref 128 0), (49, .osl 1000049 0 L.length), (50, .c (.int .i64 L.length)), (51, .c (.int .i64 p.1))])
      (fun p => [(1000049, .row 2 (fcv L)), (3000000, .obj [.c (.sl 1 (bys b)), .c (.int .i64 p.2.1.1), .c (.int .i64 p.2.1.2)]), (64, .obj [.c (.int .i64 0), .c (.int .i64 0), .c (.int .i64 0), .c (.int .i64 0), .c .nilsl, .c (.str ⟨#[]⟩), .c (.str ⟨#[]⟩), .c (.flt 0)]),
        (128, .obj [.c (.int .i64 p.2.2.kind), .c (.int .i64 p.2.2.lo), .c (.int .i64 p.2.2.hi), .c (.int .i64 p.2.2.n), .osl 1000104 0 p.2.2.to.length, .c (.str p.2.2.name), .c (.str p.2.2.other), .c (.flt p.2.2.weight)]), (1000104, .row 1 (runes p.2.2.to))])
      (fun p => L.length - p.1) (fun p => p.1 ≤ L.length ∧ (0 ≤ p.2.1.1 ∧ p.2.1.1 ≤ b.length) ∧ p.2.2.to.length ≤ 24 * p.1 ∧ p.2.2.fine ∧ readsF b (L.drop p.1) p.2.1 p.2.2 = readsF b L (a + 1, 0) (zeroR (kindAt b a))) (0, (a + 1, 0), zeroR (kindAt b a))
      ⟨Nat.zero_le _, by simp only; omega, Nat.le_refl _, ⟨⟨by unfold kindAt zeroR i64ok; have := (b.getD a.toNat 0).toNat_lt; simp only; omega, by simp [zeroR, i64ok], by simp [zeroR, i64ok], by simp [zeroR, i64ok], by simp [zeroR]⟩, by simp [zeroR]⟩, rfl⟩ ?_ ?_
    · intro Y hY
      simp only [go_sem, ↓reduceIte, Nat.reduceEqDiff, Nat.reduceMul, Nat.reduceAdd, Nat.reduceDiv, Nat.reduceSub, Nat.reduceLT, Nat.reduceLeDiff, Int.reduceLE, Int.reduceLT, Int.reduceToNat, Int.reduceEq, n65_0, hlen]
      exact ⟨by simp, hY⟩
    intro p hp Y hY
    obtain ⟨k, s, r⟩ := p
    obtain ⟨hk, hs2, hto, hfine, heq⟩ := hp
    simp only at hk hs2 hto hfine heq
    unfold l65_0
    rcases Nat.lt_or_ge k L.length with hkl | hkg
    · have ee : (fcv L).getD k .undef = .agg [.fn L[k].1, .fn L[k].2] := by simp [fcv, List.getD_eq_getElem?_getD, hkl]
      have hd : L.drop k = L[k] :: L.drop (k + 1) := List.drop_eq_getElem_cons hkl
      rw [hd, readsF] at heq
      have hm : L[k] ∈ L := List.getElem_mem hkl
      have hm8 : L[k] ∈ parts8 (kindAt b a) := by rw [hL]; exact hm
      have hcall := cwRead hm8 b s r hb hs2 (by omega)
      obtain ⟨q1, q2, q3⟩ := readF_spec hm8 b s r hs2 hfine
      generalize L[k] = p at ee heq hcall q1 q2 q3
      generalize readF p.2 b s r = N at heq hcall q1 q2 q3
      obtain ⟨s', r'⟩ := N
      simp only at heq hcall q1 q2 q3
      simp only [go_sem, ↓reduceIte, Nat.reduceEqDiff, Nat.reduceMul, Nat.reduceAdd, Nat.reduceDiv, Nat.reduceSub, Nat.reduceLT, Nat.reduceLeDiff, Int.reduceLE, Int.reduceLT, Int.reduceToNat, Int.reduceEq, n65_0, ee, hlen]
      refine ⟨fun _ => ?_, fun h => by omega⟩
      refine ⟨by omega, ?_⟩
      refine callK_i ⟨[], [[.cv (.sl 1 (bys b)), .cv (.int .i64 s'.1), .cv (.int .i64 s'.2)], [.cv (.int .i64 r'.kind), .cv (.int .i64 r'.lo), .cv (.int .i64 r'.hi), .cv (.int .i64 r'.n), .own 1 (runes r'.to), .cv (.str r'.name), .cv (.str r'.other), .cv (.flt r'.weight)]]⟩ (fun _ => ?_) ⟨by simp only [go_sem, ↓reduceIte, Nat.reduceEqDiff, Nat.reduceMul, Nat.reduceAdd, Nat.reduceDiv, Nat.reduceSub, Nat.reduceLT, Nat.reduceLeDiff, Int.reduceLE, Int.reduceLT, Int.reduceToNat, Int.reduceEq], .inl rfl, ⟨by simp only [go_sem, ↓reduceIte, Nat.reduceEqDiff, Nat.reduceMul, Nat.reduceAdd, Nat.reduceDiv, Nat.reduceSub, Nat.reduceLT, Nat.reduceLeDiff, Int.reduceLE, Int.reduceLT, Int.reduceToNat, Int.reduceEq], by simp, by simp, by simp⟩, ?_⟩
      · exact hcall
      simp only [go_sem, ↓reduceIte, Nat.reduceEqDiff, Nat.reduceMul, Nat.reduceAdd, Nat.reduceDiv, Nat.reduceSub, Nat.reduceLT, Nat.reduceLeDiff, Int.reduceLE, Int.reduceLT, Int.reduceToNat, Int.reduceEq, hlen]
      rw [succ64 hkl (by omega)]
      exact ⟨by simp, hY (k + 1, s', r') ⟨by simp only; omega, q1, by simp only; omega, q3, heq⟩ (by simp only; omega)⟩
    · have : k = L.length := by omega
      subst this
      have ee : (fcv L).getD L.length .undef = .undef := by
        rw [List.getD_eq_getElem?_getD, List.getElem?_eq_none (by omega)]; rfl
      rw [List.drop_length, readsF] at heq
      rw [← heq] at hok'
      have ht : List.take r.to.length (runes r.to) = runes r.to := take_runes r.to
      simp only [go_sem, ↓reduceIte, Nat.reduceEqDiff, Nat.reduceMul, Nat.reduceAdd, Nat.reduceDiv, Nat.reduceSub, Nat.reduceLT, Nat.reduceLeDiff, Int.reduceLE, Int.reduceLT, Int.reduceToNat, Int.reduceEq, n65_0, ee, hlen, ht]
      refine ⟨fun h => by omega, fun _ => ?_⟩
      exact hok' _ _ rfl rfl rfl
  · have : a.toNat = b.length := by omega
    have eb := bys_out (l := b) (k := a.toNat) (by omega)
    simp only [go_sem, ↓reduceIte, Nat.reduceEqDiff, Nat.reduceMul, Nat.reduceAdd, Nat.reduceDiv, Nat.reduceSub, Nat.reduceLT, Nat.reduceLeDiff, Int.reduceLE, Int.reduceLT, Int.reduceToNat, Int.reduceEq, eb]
    exact ⟨fun h => hend h _ _ rfl rfl rfl, fun h => absurd heq h⟩
theorem retP8 {t : Nat} {b : List UInt8} {s s' : Int × Int} {σ : Slots} {H : LH} {c0 c1 c2 c3 c4 c5 c6 c7 : CV} (h : Slots.get σ t = .ref 64 0)
    (hg : LH.get H 64 = some (.obj [.c c0, .c c1, .c c2, .c c3, .c c4, .c c5, .c c6, .c c7])) (ho : LH.get H 3000000 = some (rdH b s')) :
    topQ [(t, some 8, .plain)] [rdA b s] [[none, none, none]] ⟨[.cv (.agg [c0, c1, c2, c3, c4, c5, c6, c7])], [rdB b s']⟩ .ret σ H := by
  show retW σ H _ _ _ _
  unfold retW
  simp only [retVals, h, loadW, ungW, hg, List.drop_zero, argsW, rdA, backL, argBase, Nat.mul_zero, Nat.add_zero, ho, rdH, argW, List.length_cons, List.length_nil, cellsW, true_and, List.append_nil, List.nil_append, backArgs, rdB, List.map_nil, List.map_cons]
  refine ⟨by decide, ?_⟩
  simp only [List.take, closedW]
  exact ⟨by decide, ⟨rfl, trivial⟩, by simp⟩
def recS (b : List UInt8) (a : Int) : Int × Int :=
  if a = b.length then (a, 10) else if parts8 (kindAt b a) = [] then (a, 60) else (readsF b (parts8 (kindAt b a)) (a + 1, 0) (zeroR (kindAt b a))).1
def recC (b : List UInt8) (a : Int) : CV :=
  if a = b.length then zeroN else if parts8 (kindAt b a) = [] then zeroN else (readsF b (parts8 (kindAt b a)) (a + 1, 0) (zeroR (kindAt b a))).2.cv
theorem cw65 (b : List UInt8) (a : Int) (hb : b.length < 1000000000000000) (hs : 0 ≤ a ∧ a ≤ b.length) : CW Try.prog 65 [rdA b (a, 0)] ⟨[.cv (recC b a)], [rdB b (recS b a)]⟩ := by
  refine top65 rfl rfl [[none, none, none]] ⟨rfl, trivial⟩ (w65 b a hb hs _ (fun h σ H x y z => ?_) (fun h h2 σ H x y z => ?_) (fun h h2 σ H x y z => ?_))
  · unfold recC recS
    rw [if_pos h, if_pos h]
    exact retP8 x y z
  · unfold recC recS
    have ha : ¬a = (b.length : Int) := by omega
    rw [if_neg ha, if_neg ha, if_pos h2, if_pos h2]
    exact retP8 x y z
  · unfold recC recS
    have ha : ¬a = (b.length : Int) := by omega
    rw [if_neg ha, if_neg ha, if_neg h2, if_neg h2]
    exact retP8 x y z
def st (r : Rec) : Int := if r.kind = 4 then r.n else 1
def Rec.span (r : Rec) : Prop := r.ok ∧ r.kind ≠ 15 ∧ 0 ≤ r.lo ∧ r.lo ≤ r.hi ∧ r.hi ≤ 1114111 ∧ 1 ≤ st r ∧ st r ≤ 64
def Says (r : Rec) (c : Int) : Prop := r.lo ≤ c ∧ c ≤ r.hi ∧ st r ∣ c - r.lo
theorem u64_id {c : Int} (h : 0 ≤ c) (h2 : c ≤ 2000000) : IntKind.u64.wrap c = c := by rw [wrap_u64]; omega
theorem i64_id {c : Int} (h : -9000000000 ≤ c) (h2 : c ≤ 9000000000) : IntKind.i64.wrap c = c := by rw [wrap_i64]; omega
theorem tmod_zero {a b : Int} (ha : 0 ≤ a) : a.tmod b = 0 ↔ b ∣ a := Int.dvd_iff_tmod_eq_zero.symm
theorem speaksR_iff {r : Rec} (h : r.span) (c : Int) : speaksR r c = true ↔ Says r c := by
  obtain ⟨_, h15, h1, h2, h3, h4, h5⟩ := h
  unfold speaksR Says st at *
  by_cases hc : ((c < r.lo ∨ r.hi < c) ∨ c < 0) ∨ 1114111 < c
  · rw [if_pos hc]
    simp only [Bool.false_eq_true, false_iff]
    intro ⟨a, b, _⟩
    omega
  · rw [if_neg hc]
    have hlo : r.lo ≤ c := by omega
    have hhi : c ≤ r.hi := by omega
    by_cases h4' : r.kind = 4
    · simp only [h4', if_true] at h4 h5 ⊢
      rw [u64_id (c := c) (by omega) (by omega), u64_id (c := r.lo) (by omega) (by omega), u64_id (c := r.n) (by omega) (by omega), u64_id (by omega) (by omega)]
      simp only [decide_true, Bool.not_true, Bool.false_or, Bool.and_eq_true, decide_eq_true_eq, beq_iff_eq]
      rw [tmod_zero (by omega)]
      exact ⟨fun h => ⟨hlo, hhi, h.2⟩, fun h => ⟨by omega, h.2.2⟩⟩
    · simp only [h4', decide_false, Bool.not_false, Bool.true_or, if_false, true_iff]
      exact ⟨hlo, hhi, Int.one_dvd _⟩
theorem speaksF_iff {r : Rec} (h : r.span) (c : Int) : speaksF r c = true ↔ Says r c := by
  obtain ⟨_, h15, h1, h2, h3, h4, h5⟩ := h
  have hs : stepR r = st r := by
    unfold stepR st at *
    split
    · rename_i hk; rw [if_pos hk] at h4; rw [if_neg (by omega)]
    · rfl
  unfold speaksF Says
  rw [hs]
  by_cases hc : r.lo ≤ c ∧ c ≤ r.hi
  · rw [u64_id (c := c) (by omega) (by omega), u64_id (c := r.lo) (by omega) (by omega), u64_id (c := st r) (by omega) (by omega), u64_id (by omega) (by omega)]
    simp only [Bool.and_eq_true, decide_eq_true_eq, Bool.not_eq_true', decide_eq_false_iff_not]
    rw [tmod_zero (by omega)]
    constructor
    · rintro ⟨⟨⟨⟨⟨⟨_, _⟩, _⟩, _⟩, a⟩, b⟩, d⟩; exact ⟨a, b, d⟩
    · rintro ⟨a, b, d⟩; exact ⟨⟨⟨⟨⟨⟨h15, by omega⟩, by omega⟩, by omega⟩, a⟩, b⟩, d⟩
  · simp only [Bool.and_eq_true, decide_eq_true_eq, Bool.not_eq_true', decide_eq_false_iff_not]
    constructor
    · rintro ⟨⟨⟨⟨⟨⟨_, _⟩, _⟩, _⟩, a⟩, b⟩, d⟩; exact absurd ⟨a, b⟩ hc
    · rintro ⟨a, b, d⟩; omega
def Meets (a b : Rec) : Prop := ∃ c, Says a c ∧ Says b c
theorem Meets.symm {a b : Rec} (h : Meets a b) : Meets b a := let ⟨c, h1, h2⟩ := h; ⟨c, h2, h1⟩
theorem meets_iff {a b : Rec} (ha : a.span) (hb : b.span) {c0 : Int} (q0 : Int) (hc0 : c0 = a.lo + q0 * st a) (h1 : max a.lo b.lo ≤ c0) (h2 : c0 < max a.lo b.lo + st a) :
    Meets a b ↔ ∃ j : Nat, j < 64 ∧ c0 + j * st a ≤ min a.hi b.hi ∧ Says b (c0 + j * st a) := by
  obtain ⟨_, _, a1, a2, a3, a4, a5⟩ := ha
  obtain ⟨_, _, b1, b2, b3, b4, b5⟩ := hb
  constructor
  · rintro ⟨c, ⟨p1, p2, q, hq⟩, r1, r2, s, hs⟩
    have e : c = a.lo + st a * q := by omega
    have hqq : q0 ≤ q := by
      rcases Int.lt_or_le q q0 with h | h
      · exfalso
        have : st a * (q + 1) ≤ st a * q0 := Int.mul_le_mul_of_nonneg_left (by omega) (by omega)
        rw [Int.mul_add, Int.mul_one] at this
        rw [Int.mul_comm q0] at hc0
        omega
      · exact h
    have hm : (q - q0) % st b < st b := Int.emod_lt_of_pos _ (by omega)
    have hm0 : 0 ≤ (q - q0) % st b := Int.emod_nonneg _ (by omega)
    have hle : (q - q0) % st b ≤ q - q0 := by
      have := Int.emod_add_mul_ediv (q - q0) (st b)
      have h3 : 0 ≤ (q - q0) / st b := Int.ediv_nonneg (by omega) (by omega)
      have h4 : 0 ≤ st b * ((q - q0) / st b) := Int.mul_nonneg (by omega) h3
      omega
    have hj : (((q - q0) % st b).toNat : Int) = (q - q0) % st b := Int.toNat_of_nonneg hm0
    have hdiff : c - (c0 + (q - q0) % st b * st a) = ((q - q0) - (q - q0) % st b) * st a := by
      rw [hc0, e, Int.sub_mul, Int.sub_mul, Int.mul_comm (st a) q]
      omega
    have hge : 0 ≤ ((q - q0) - (q - q0) % st b) * st a := Int.mul_nonneg (by omega) (by omega)
    have hpos : 0 ≤ (q - q0) % st b * st a := Int.mul_nonneg hm0 (by omega)
    refine ⟨((q - q0) % st b).toNat, by omega, ?_, ?_⟩
    · rw [hj]; omega
    · rw [hj]
      refine ⟨by omega, by omega, ?_⟩
      have hd1 : st b ∣ ((q - q0) - (q - q0) % st b) * st a := Int.dvd_mul_of_dvd_left Int.dvd_self_sub_emod
      have : c0 + (q - q0) % st b * st a - b.lo = st b * s - ((q - q0) - (q - q0) % st b) * st a := by omega
      rw [this]
      exact Int.dvd_sub (Int.dvd_mul_right _ _) hd1
  · rintro ⟨j, hj, h3, h4⟩
    refine ⟨c0 + j * st a, ⟨?_, by omega, ?_⟩, h4⟩
    · have : 0 ≤ (j : Int) * st a := Int.mul_nonneg (by omega) (by omega)
      omega
    · rw [hc0]
      have : a.lo + q0 * st a + j * st a - a.lo = (q0 + j) * st a := by rw [Int.add_mul]; omega
      rw [this]
      exact Int.dvd_mul_left _ _
theorem first_spec {lo m s : Int} (h0 : 0 ≤ lo) (h1 : lo ≤ m) (h2 : m ≤ 1114111) (h3 : 1 ≤ s) (h4 : s ≤ 64) :
    ∃ q, IntKind.i64.wrap (lo + IntKind.i64.wrap (IntKind.i64.wrap ((IntKind.i64.wrap (IntKind.i64.wrap (IntKind.i64.wrap (m - lo) + s) - 1)).tdiv s) * s)) = lo + q * s ∧ m ≤ lo + q * s ∧ lo + q * s < m + s := by
  have e1 : IntKind.i64.wrap (m - lo) = m - lo := i64_id (by omega) (by omega)
  have e2 : IntKind.i64.wrap (m - lo + s) = m - lo + s := i64_id (by omega) (by omega)
  have e3 : IntKind.i64.wrap (m - lo + s - 1) = m - lo + s - 1 := i64_id (by omega) (by omega)
  have e4 : (m - lo + s - 1).tdiv s = (m - lo + s - 1) / s := Int.tdiv_eq_ediv_of_nonneg (by omega)
  have d1 := Int.emod_add_mul_ediv (m - lo + s - 1) s
  have d2 := Int.emod_nonneg (m - lo + s - 1) (show s ≠ 0 by omega)
  have d3 := Int.emod_lt_of_pos (m - lo + s - 1) (show 0 < s by omega)
  have d4 : 0 ≤ (m - lo + s - 1) / s := Int.ediv_nonneg (by omega) (by omega)
  have d5 : (m - lo + s - 1) / s * s = s * ((m - lo + s - 1) / s) := Int.mul_comm _ _
  have d6 : (m - lo + s - 1) / s ≤ m - lo + s - 1 := Int.ediv_le_self _ (by omega)
  refine ⟨(m - lo + s - 1) / s, ?_, by omega, by omega⟩
  rw [e1, e2, e3, e4, i64_id (c := (m - lo + s - 1) / s) (by omega) (by omega), i64_id (c := (m - lo + s - 1) / s * s) (by omega) (by omega), i64_id (by omega) (by omega)]
theorem clashC_iff {b : Rec} (hb : b.span) {hi s : Int} (h1 : 1 ≤ s) (h2 : s ≤ 64) : ∀ (k : Nat) (c : Int), 0 ≤ c → c + k * 64 ≤ 9000000 → (clashC b hi s k c = true ↔ ∃ j : Nat, j < k ∧ c + j * s ≤ hi ∧ Says b (c + j * s))
  | 0, c, _, _ => by simp [clashC]
  | k + 1, c, h0, h3 => by
    have hw : IntKind.i64.wrap (c + s) = c + s := i64_id (by omega) (by omega)
    have ih := clashC_iff hb (hi := hi) h1 h2 k (c + s) (by omega) (by omega)
    have step : (∃ j : Nat, j < k + 1 ∧ c + j * s ≤ hi ∧ Says b (c + j * s)) ↔ (c ≤ hi ∧ Says b c) ∨ ∃ j : Nat, j < k ∧ (c + s) + j * s ≤ hi ∧ Says b ((c + s) + j * s) := by
      have e : ∀ j : Nat, c + ((j + 1 : Nat) : Int) * s = (c + s) + j * s := fun j => by
        rw [Int.natCast_succ, Int.add_mul, Int.one_mul]; omega
      constructor
      · rintro ⟨j, hj, x, y⟩
        match j with
        | 0 => simp at x y; exact .inl ⟨x, y⟩
        | j + 1 => rw [e] at x y; exact .inr ⟨j, by omega, x, y⟩
      · rintro (⟨x, y⟩ | ⟨j, hj, x, y⟩)
        · exact ⟨0, by omega, by simpa using x, by simpa using y⟩
        · exact ⟨j + 1, by omega, by rw [e]; exact x, by rw [e]; exact y⟩
    rw [step, clashC, hw, ← ih]
    by_cases hc : c ≤ hi
    · rw [if_pos hc]
      by_cases hs : speaksF b c = true
      · rw [if_pos hs]; exact ⟨fun _ => .inl ⟨hc, (speaksF_iff hb c).1 hs⟩, fun _ => rfl⟩
      · rw [if_neg hs]
        exact ⟨.inr, fun h => h.resolve_left fun h => hs ((speaksF_iff hb c).2 h.2)⟩
    · rw [if_neg hc]
      refine ⟨fun h => (by cases h), fun h => ?_⟩
      rcases h with h | h
      · exact absurd h.1 hc
      · exfalso
        obtain ⟨j, _, x, _⟩ := ih.1 h
        have : 0 ≤ (j : Int) * s := Int.mul_nonneg (by omega) (by omega)
        omega
theorem meetC_iff {b : Rec} (hb : b.span) {hi s : Int} (h1 : 1 ≤ s) (h2 : s ≤ 64) : ∀ (k : Nat) (c : Int), 0 ≤ c → c + k * 64 ≤ 9000000 → meetC b hi s k c = clashC b hi s k c
  | 0, c, _, _ => rfl
  | k + 1, c, h0, h3 => by
    have hw : IntKind.i64.wrap (c + s) = c + s := i64_id (by omega) (by omega)
    have ih := meetC_iff hb (hi := hi) h1 h2 k (c + s) (by omega) (by omega)
    have hs : speaksR b c = speaksF b c := by rw [Bool.eq_iff_iff, speaksR_iff hb, speaksF_iff hb]
    rw [meetC, clashC, hw, ih, hs]
    by_cases hc : c ≤ hi
    · rw [if_pos hc, if_neg (by omega)]
    · rw [if_neg hc, if_pos (by omega)]
theorem mx_eq (x y : Int) : (if x < y then y else x) = max x y := by split <;> omega
theorem mn_eq (x y : Int) : (if y < x then y else x) = min x y := by split <;> omega
theorem clashF_iff {a b : Rec} (ha : a.span) (hb : b.span) (hf : famK a.kind = famK b.kind) : clashF a b = true ↔ Meets a b := by
  have ha' := ha
  have hb' := hb
  obtain ⟨_, a15, a1, a2, a3, a4, a5⟩ := ha'
  obtain ⟨_, b15, b1, b2, b3, b4, b5⟩ := hb'
  have hs : stepR a = st a := by
    unfold stepR st at *
    split
    · rename_i hk; rw [if_pos hk] at a4; rw [if_neg (by omega)]
    · rfl
  unfold clashF
  rw [if_neg (by simpa using hf), if_neg a15, mn_eq, hs]
  have hc : ∃ q, clashS a b = a.lo + q * st a ∧ max a.lo b.lo ≤ a.lo + q * st a ∧ a.lo + q * st a < max a.lo b.lo + st a := by
    unfold clashS
    rw [mx_eq, hs]
    by_cases h : a.lo < max a.lo b.lo
    · rw [if_pos h]; exact first_spec a1 (by omega) (by omega) a4 a5
    · rw [if_neg h]; exact ⟨0, by omega, by omega, by omega⟩
  obtain ⟨q, e, h1, h2⟩ := hc
  rw [clashC_iff hb a4 a5 64 _ (by omega) (by omega), e]
  exact (meets_iff ha hb q rfl h1 h2).symm
theorem meetO_iff {a b : Rec} (ha : a.span) (hb : b.span) (h4 : a.kind = 4 ∨ b.kind ≠ 4) : meetO a b = true ↔ Meets a b := by
  have ha' := ha
  have hb' := hb
  obtain ⟨_, a15, a1, a2, a3, a4, a5⟩ := ha'
  obtain ⟨_, b15, b1, b2, b3, b4, b5⟩ := hb'
  unfold meetO
  rw [mn_eq, mx_eq]
  by_cases hk : a.kind = 4
  · by_cases hlt : min a.hi b.hi < max a.lo b.lo
    · rw [if_pos (.inr hlt)]
      simp only [decide_eq_true_eq]
      constructor
      · intro h; omega
      · rintro ⟨c, ⟨x, y, _⟩, z, w, _⟩; omega
    · rw [if_neg (fun h => h.elim (fun h => h hk) hlt)]
      have hs : a.n = st a := by unfold st; rw [if_pos hk]
      have hc : ∃ q, meetS a b = a.lo + q * st a ∧ max a.lo b.lo ≤ a.lo + q * st a ∧ a.lo + q * st a < max a.lo b.lo + st a := by
        unfold meetS
        rw [mx_eq, hs]
        exact first_spec a1 (by omega) (by omega) a4 a5
      obtain ⟨q, e, h1, h2⟩ := hc
      rw [hs, meetC_iff hb a4 a5 64 _ (by omega) (by omega), clashC_iff hb a4 a5 64 _ (by omega) (by omega), e]
      exact (meets_iff ha hb q rfl h1 h2).symm
  · have hkb := h4.resolve_left hk
    rw [if_pos (.inl hk)]
    have sa : st a = 1 := by unfold st; rw [if_neg hk]
    have sb : st b = 1 := by unfold st; rw [if_neg hkb]
    simp only [decide_eq_true_eq]
    constructor
    · intro h
      exact ⟨max a.lo b.lo, ⟨by omega, by omega, by rw [sa]; exact Int.one_dvd _⟩, by omega, by omega, by rw [sb]; exact Int.one_dvd _⟩
    · rintro ⟨c, ⟨x, y, _⟩, z, w, _⟩; omega
theorem meetR_iff {a b : Rec} (ha : a.span) (hb : b.span) : meetR a b = true ↔ Meets a b := by
  unfold meetR
  by_cases hk : a.kind = 4
  · rw [if_pos hk]; exact meetO_iff ha hb (.inl hk)
  · rw [if_neg hk, meetO_iff hb ha (.inr hk)]; exact ⟨Meets.symm, Meets.symm⟩
theorem dbl_sw : FloatKind.f64.format.signWeight = 9223372036854775808 := by decide
theorem dbl_bin : FloatKind.f64.format.binade = 4503599627370496 := by decide
theorem dbl_inf : FloatKind.f64.format.infRung = 9218868437227405312 := by decide
theorem order_self (x : Nat) : FloatKind.f64.format.order x x = some .eq ↔ x % 9223372036854775808 ≤ 9218868437227405312 := by
  unfold Ieee.Format.order Ieee.Format.read
  rw [dbl_sw, dbl_bin, dbl_inf]
  by_cases h1 : x % 9223372036854775808 < 4503599627370496
  · simp only [if_pos h1, Ieee.Datum.order, Std.ReflCmp.compare_self, true_iff]; omega
  · rw [if_neg h1]
    by_cases h2 : x % 9223372036854775808 < 9218868437227405312
    · simp only [if_pos h2, Ieee.Datum.order, Std.ReflCmp.compare_self, true_iff]; omega
    · rw [if_neg h2]
      by_cases h3 : x % 9223372036854775808 = 9218868437227405312
      · simp only [if_pos h3, Ieee.Datum.order, Std.ReflCmp.compare_self, true_iff]; omega
      · simp only [if_neg h3, Ieee.Datum.order, reduceCtorEq, false_iff]; omega
theorem rank_zero : rankF 0 = 0 := by
  unfold rankF
  have h0 : FloatKind.f64.format.order 0 0 = some .eq := (order_self 0).2 (by decide)
  rw [if_neg (by rw [h0]; simp)]
  rfl
theorem weighs_eq {r : Rec} (h : r.weight < 18446744073709551616) : weighsR r = weightR r.weight := by
  unfold weighsR weightR orderF
  rw [rank_zero, Bool.eq_iff_iff]
  simp only [Bool.and_eq_true, decide_eq_true_eq]
  constructor
  · rintro ⟨h1, h2⟩
    have h3 := (order_self _).1 h1
    rcases Nat.lt_or_ge r.weight 9223372036854775808 with hs | hs
    · omega
    · exfalso
      have : rankF r.weight < 0 := by
        unfold rankF
        rw [if_neg (by simp [h1])]
        simp only [wrap_i64]
        rw [if_pos (by omega)]
        omega
      rw [if_pos this] at h2
      omega
  · intro h1
    have h3 : FloatKind.f64.format.order r.weight r.weight = some .eq := (order_self _).2 (by omega)
    refine ⟨h3, ?_⟩
    have : ¬ rankF r.weight < 0 := by
      unfold rankF
      rw [if_neg (by simp [h3])]
      simp only [wrap_i64]
      rw [if_neg (by omega)]
      omega
    rw [if_neg this]
    split <;> omega
theorem bit_low {x : Int} (h0 : 0 ≤ x) (h1 : x ≤ 1114111) : bitI .and .i64 x 2097151 = x := by
  obtain ⟨n, rfl⟩ := Int.eq_ofNat_of_zero_le h0
  have hn : n ≤ 1114111 := by omega
  have e : ((BitVec.ofNat 64 n &&& BitVec.ofNat 64 (2 ^ 21 - 1)).toNat) = n := by
    rw [BitVec.toNat_and, BitVec.toNat_ofNat, BitVec.toNat_ofNat]
    rw [Nat.mod_eq_of_lt (a := n) (by omega), Nat.mod_eq_of_lt (a := 2 ^ 21 - 1) (by decide), Nat.and_two_pow_sub_one_eq_mod]
    exact Nat.mod_eq_of_lt (by omega)
  have e1 : BitVec.ofInt 64 (n : Int) = BitVec.ofNat 64 n := by
    apply BitVec.eq_of_toNat_eq
    simp [BitVec.toNat_ofInt]
  have e2 : BitVec.ofInt 64 2097151 = BitVec.ofNat 64 (2 ^ 21 - 1) := by decide
  show IntKind.i64.wrap ((BitVec.ofInt 64 (n : Int) &&& BitVec.ofInt 64 2097151).toNat : Int) = (n : Int)
  rw [e1, e2, e]
  exact i64_id (by omega) (by omega)
theorem one_eq {r : Rec} (h : spanR r = true) : oneR r = oneF r := by
  unfold spanR at h
  simp only [Bool.and_eq_true, decide_eq_true_eq] at h
  unfold oneR oneF
  rw [bit_low (by omega) (by omega)]
theorem to_pos (r : Rec) : (0 : Int) < r.to.length ↔ ¬ r.to = [] := by cases r.to <;> simp <;> omega
theorem none_eq (r : Rec) (n t m w : Bool) (h : r.kind ≠ 15) : noneR n t m w r = bareR r (!n) (!t) (!m) false (!w) := by
  unfold noneR bareR
  have e := to_pos r
  rw [Bool.eq_iff_iff]
  cases n <;> cases t <;> cases m <;> cases w <;> simp [h, e] <;> grind
theorem none_eq2 (r : Rec) (h : r.kind = 15) : noneR true true false false r = bareR r false false true true true := by
  unfold noneR bareR
  have e := to_pos r
  rw [Bool.eq_iff_iff]
  simp [h, e]
theorem list_eq (r : Rec) (a b : Int) : soundR r a b = listR r.to a b := rfl
theorem shift_eq {r : Rec} (h : spanR r = true) (hok : r.ok) : shiftsR r = (decide (1 ≤ r.n) && decide (r.n ≤ 64) && listR r.to 1 1 && shiftF r) := by
  unfold spanR at h
  simp only [Bool.and_eq_true, decide_eq_true_eq] at h
  unfold shiftsR shiftF listR
  match hto : r.to with
  | [] => simp
  | a :: b :: l => 
    have : ¬ ((l.length : Int) + 1 + 1 ≤ 1) := by omega
    simp [this]
  | [a] =>
    have ha : i32ok a := hok.2.2.2.2 a (by rw [hto]; exact List.mem_singleton.2 rfl)
    unfold i32ok at ha
    rw [Bool.eq_iff_iff]
    simp only [wrap_i32, wrap_i64, valid, List.length_singleton, List.all_cons, List.all_nil, Bool.and_eq_true, Bool.or_eq_true, decide_eq_true_eq, beq_iff_eq, decide_eq_decide, Bool.and_true]
    omega
theorem fits_eq {r : Rec} (h : spanR r = true) (hok : r.ok) (hf : famK r.kind ≠ 0) (hk : r.kind ≠ 15) (hw : r.weight < 18446744073709551616) : fitsR r = okF r := by
  unfold fitsR okF
  have hk' : r.kind = 1 ∨ r.kind = 2 ∨ r.kind = 3 ∨ r.kind = 4 ∨ r.kind = 5 ∨ r.kind = 6 ∨ r.kind = 7 ∨ r.kind = 8 ∨ r.kind = 9 ∨ r.kind = 10 ∨ r.kind = 11 ∨ r.kind = 12 ∨ r.kind = 13 ∨ r.kind = 14 := by
    unfold famK at hf
    (repeat' split at hf) <;> omega
  rw [h, one_eq h, shift_eq h hok, weighs_eq hw]
  simp only [none_eq r _ _ _ _ hk, list_eq]
  rcases hk' with e | e | e | e | e | e | e | e | e | e | e | e | e | e <;> simp [e, Bool.and_assoc, Bool.and_comm, Bool.and_left_comm]
theorem right_eq {r : Rec} (hok : r.ok) (hw : r.weight < 18446744073709551616) : rightR r = rightF r := by
  unfold rightR rightF
  by_cases hf : famK r.kind = 0
  · rw [if_pos hf, if_pos hf]
  rw [if_neg hf, if_neg hf]
  by_cases hk : r.kind = 15
  · simp only [if_pos hk]
    have : fitsR r = (bareR r false false true true true && nameS r.name && nameS r.other && !decide (r.name.data.toList = r.other.data.toList) && weightR r.weight) := by
      unfold fitsR
      rw [none_eq2 r hk, weighs_eq hw]
      simp [hk]
    rw [this]
    simp only [Bool.and_eq_true, decide_eq_true_eq, and_assoc]
  · simp only [if_neg hk]
    by_cases hs : spanR r = true
    · have hs' := hs
      unfold spanR at hs'
      simp only [Bool.and_eq_true, decide_eq_true_eq] at hs'
      rw [fits_eq hs hok hf hk hw]
      simp only [hs'.1.1, hs'.1.2, hs'.2, true_and]
    · have hok0 : okF r = false := by
        unfold okF
        simp [hs]
      have hs' := hs
      unfold spanR at hs'
      simp only [Bool.and_eq_true, decide_eq_true_eq] at hs'
      rw [hok0, if_neg (fun h => hs' ⟨⟨h.1.1, h.1.2.1⟩, h.1.2.2⟩)]
      rfl
def isI (k : Value) : Prop := ∃ n, k = .int .i64 n
structure Fams (C : Ctx) (ι : Nat → Loc) (S : Nat → Nat → Prop) (H : LH) (w : World) (l : List Rec) (m : Nat) (x : Option Int) (g : Value → Value) (L : Int → Loc) : Prop where
  mp : MapAt w m isI (.slice none 0 0) g
  hm : Hid ι S H w m
  hC : C.w0.heap.size ≤ m
  row : ∀ f, x ≠ some f → RowR (L f) S w 8 (recs (fam l f))
  sl : ∀ f, SliceAt (L f) 8 0 (fam l f).length (g (.int .i64 f))
  hid : ∀ f, x ≠ some f → (L f).isnil = false → Hid ι S H w (L f).block ∧ C.w0.heap.size ≤ (L f).block ∧ (L f).block ≠ m
  inj : ∀ f f', (L f).isnil = false → (L f').isnil = false → (L f).block = (L f').block → f = f'
variable {C : Ctx} {ι ι' : Nat → Loc} {S S' : Nat → Nat → Prop} {σ σ' : Slots} {H H' : LH} {a a' : Act} {w w' : World} {l : List Rec} {m : Nat} {x : Option Int} {g : Value → Value} {L : Int → Loc}
theorem Fams.step (h : Fams C ι S H w l m x g L) {D : Ctx} (hr : HR ι S H w) (h' : R (D.now w ι S H) ι' S' σ' H' a' w') : Fams C ι' S' H' w' l m x g L := by
  have hb : ∀ b, Hid ι S H w b → Hid ι' S' H' w' b ∧ w'.heap[b]? = w.heap[b]? := fun b hb => hb.step h'
  refine ⟨h.mp.same (hb m h.hm).2, (hb m h.hm).1, h.hC, fun f hf => (h.row f hf).mono (fun b o u hs hu => ⟨h'.sub b hs, ?_⟩) (fun hn => (hb _ (h.hid f hf hn).1).2), h.sl, fun f hf hn => ⟨(hb _ (h.hid f hf hn).1).1, (h.hid f hf hn).2⟩, h.inj⟩
  rw [cell_block (w := w) (h'.fr.block b (hr.slt b hs) (fun ⟨id, ho, e⟩ => hr.disj id ho (e ▸ hs)))]
  exact hu
theorem Hid.nil {b : Nat} (h : Hid ι S H w b) : Hid ι' S [] w b := ⟨h.1, h.2.1, fun ⟨id, ho, _⟩ => by unfold Owned at ho; simp [LH.get] at ho⟩
theorem Fams.adopt (h : Fams C ι S H w l m none g L) {id : Nat} (f : Int) (hn : LH.get H id = none) :
    Fams C (updL ι id (L f)) S (LH.set H id (.row 8 (recs (fam l f)))) w l m (some f) g L := by
  have hb : ∀ b, Hid ι S H w b → ((L f).isnil = false → (L f).block ≠ b) → Hid (updL ι id (L f)) S (LH.set H id (.row 8 (recs (fam l f)))) w b := fun b hb hne =>
    ⟨hb.1, hb.2.1, fun ho => (OwnB.adopt ho).elim hb.2.2 fun ⟨e1, e2⟩ => hne e1 e2⟩
  refine ⟨h.mp, hb m h.hm fun hn => (h.hid f (by simp) hn).2.2, h.hC, fun f' hf => h.row f' (by simp), h.sl, fun f' hf hn' => ⟨hb _ (h.hid f' (by simp) hn').1 fun hn => fun e => hf (by rw [h.inj f f' hn hn' e]), (h.hid f' (by simp) hn').2⟩, h.inj⟩
theorem fam_snoc (l : List Rec) (r : Rec) (f : Int) : fam (l ++ [r]) f = if famK r.kind = f then fam l f ++ [r] else fam l f := by
  unfold fam
  rw [List.filter_append]
  by_cases h : famK r.kind = f
  · rw [if_pos h]; simp [h]
  · rw [if_neg h]; simp [h]
theorem avr_raw {v : Value} {u : Value} (hv : AVR ι H S w (.c (.raw v)) u) : u = v := by
  cases avr_c hv; rfl
theorem slot_raw {t : Nat} {v : Value} (h : R C ι S σ H a w) (hs : Slots.get σ t = .c (.raw v)) : a.tmps.getD t Go.undef = v := by
  have := h.sl t
  rw [hs] at this
  exact avr_raw this
theorem slot_i64 {t : Nat} {n : Int} (h : R C ι S σ H a w) (hs : Slots.get σ t = .c (.int .i64 n)) : a.tmps.getD t Go.undef = .int .i64 n := by
  have := h.sl t
  rw [hs] at this
  exact avr_int this
def q15a : List IOp := [⟨some 41, 0, none, .mv (.t 7)⟩, ⟨some 42, 0, none, .mv (.t 10)⟩]
def q15b : List IOp := [⟨some 44, 0, none, .len false (.t 43)⟩, ⟨some 45, 0, none, .mv (.c (.int .i64 0))⟩]
def q21a : List IOp := [⟨some 90, 0, none, .mv (.t 7)⟩, ⟨some 91, 0, none, .mv (.t 10)⟩, ⟨some 92, 0, none, .mv (.t 7)⟩, ⟨some 93, 0, none, .mv (.t 10)⟩]
def q21b : List IOp := [⟨some 95, 0, none, .ld (.t 9) (some 8)⟩, ⟨some 96, 40, none, .bsl 8 [.t 95]⟩, ⟨some 97, 41, none, .app (.t 94) (.t 96) 8 96 false⟩]
def s30a (l : List Rec) (v : Value) (i : Nat) (f : Int) : Slots := (10, .c (.int .i64 f)) :: (8, .c (.int .i64 i)) :: (9, .ref 768 0) :: s30 l v i
theorem wa15a (l : List Rec) (v : Value) (i : Nat) (f : Int) (r : Rec) (Q : Ex → Slots → LH → Prop) (hQ : ∀ σ, Has σ ((42, .c (.int .i64 f)) :: (41, .c (.raw v)) :: s30a l v i f) → Q .norm σ [(768, robj r)]) : rnC Try.prog (.reg q15a) Q (s30a l v i f) [(768, robj r)] := by
  unfold q15a s30a s30 robj
  simp only [go_sem, ↓reduceIte, Nat.reduceEqDiff, Nat.reduceMul, Nat.reduceAdd, Nat.reduceDiv, Nat.reduceSub, Nat.reduceLT, Nat.reduceLeDiff, Int.reduceLE, Int.reduceLT, Int.reduceToNat, Int.reduceEq]
  exact hQ _ ⟨rfl, rfl, rfl, rfl, rfl, rfl, rfl, rfl, rfl, trivial⟩
theorem wa15b (l : List Rec) (v : Value) (i : Nat) (f : Int) (r : Rec) (os : List Rec) (Q : Ex → Slots → LH → Prop) (hQ : ∀ σ, Has σ ((45, .c (.int .i64 0)) :: (44, .c (.int .i64 os.length)) :: s30b l v i f os) → Q .norm σ (h30b r os)) : rnC Try.prog (.reg q15b) Q (s30b l v i f os) (h30b r os) := by
  unfold q15b s30b s30 h30b robj
  simp only [go_sem, ↓reduceIte, Nat.reduceEqDiff, Nat.reduceMul, Nat.reduceAdd, Nat.reduceDiv, Nat.reduceSub, Nat.reduceLT, Nat.reduceLeDiff, Int.reduceLE, Int.reduceLT, Int.reduceToNat, Int.reduceEq]
  exact hQ _ ⟨rfl, rfl, rfl, rfl, rfl, rfl, rfl, rfl, rfl, rfl, trivial⟩
theorem wa21a (l : List Rec) (v : Value) (i : Nat) (f : Int) (r : Rec) (os : List Rec) (Q : Ex → Slots → LH → Prop) (hQ : ∀ σ, Has σ ((93, .c (.int .i64 f)) :: (92, .c (.raw v)) :: (91, .c (.int .i64 f)) :: (90, .c (.raw v)) :: s30b l v i f os) → Q .norm σ [(3000640, .row 8 (recs os)), (768, robj r)]) :
    rnC Try.prog (.reg q21a) Q (s30b l v i f os) [(3000640, .row 8 (recs os)), (768, robj r)] := by
  unfold q21a s30b s30 robj
  simp only [go_sem, ↓reduceIte, Nat.reduceEqDiff, Nat.reduceMul, Nat.reduceAdd, Nat.reduceDiv, Nat.reduceSub, Nat.reduceLT, Nat.reduceLeDiff, Int.reduceLE, Int.reduceLT, Int.reduceToNat, Int.reduceEq]
  exact hQ _ ⟨rfl, rfl, rfl, rfl, rfl, rfl, rfl, rfl, rfl, rfl, rfl, rfl, trivial⟩
theorem wa21b (l : List Rec) (v : Value) (i : Nat) (f : Int) (r : Rec) (os : List Rec) (hos : os.length ≤ 4096) (Q : Ex → Slots → LH → Prop) (hQ : ∀ σ H, Has σ ((97, .osl 2624 0 (os.length + 1)) :: (91, .c (.int .i64 f)) :: (90, .c (.raw v)) :: s30 l v i) → LH.get H 2624 = some (.row 8 (recs (os ++ [r]))) → (∀ id ob, argBase ≤ id → LH.get H id = some ob → ¬ ob.own) → Q .norm σ H) :
    rnC Try.prog (.reg q21b) Q ((94, .osl 3000640 0 os.length) :: (91, .c (.int .i64 f)) :: (90, .c (.raw v)) :: (9, .ref 768 0) :: s30 l v i) [(3000640, .row 8 (recs os)), (768, robj r)] := by
  unfold q21b s30 robj
  simp only [go_sem, ↓reduceIte, Nat.reduceEqDiff, Nat.reduceMul, Nat.reduceAdd, Nat.reduceDiv, Nat.reduceSub, Nat.reduceLT, Nat.reduceLeDiff, Int.reduceLE, Int.reduceLT, Int.reduceToNat, Int.reduceEq]
  have ht : List.take os.length (recs os) = recs os := by rw [← recs_len os, List.take_length]
  refine ⟨by omega, hQ _ _ ⟨rfl, rfl, rfl, rfl, rfl, rfl, rfl, trivial⟩ ?_ fun id ob hge hg ho => ?_⟩
  · show some (LObj.row 8 (List.take os.length (recs os) ++ [r.cv])) = _
    rw [ht]; simp [recs]
  · unfold argBase at hge
    simp only [LH.get] at hg
    rw [if_neg (show ¬768 = id by omega), if_neg (show ¬2560 = id by omega), if_neg (show ¬2624 = id by omega)] at hg
    split at hg
    · injection hg with hg; subst hg; exact ho
    · cases hg
theorem zero22 (w : World) : (zeroValue 22).run Try.prog w = .ok (.slice none 0 0) w := by kernel_rfl
theorem map87 : Try.prog.underlying 87 = some (.map 3 22) := by kernel_rfl
theorem keys87 : Keys Try.prog 3 isI := keys_int (by kernel_rfl)
theorem no_ids {r : Rec} : ∀ id ob, argBase ≤ id → LH.get [(768, robj r)] id = some ob → ¬ ob.own := fun id ob hge hg => by
  unfold argBase at hge
  simp only [LH.get, if_neg (show ¬768 = id by omega)] at hg
  cases hg
theorem no_ids0 : ∀ id ob, argBase ≤ id → LH.get [] id = some ob → ¬ ob.own := fun id ob hge hg => by cases hg
theorem reg15 {ops : Array Oper} {l1 l2 : List Oper} {o : Oper} {Q : Exit → Act → World → Prop} {f : Int} {r : Rec} {i : Nat} {l' : List Rec}
    (hops : ops.toList = l1 ++ (o :: l2)) (c1 : chkOps Try.prog C.n ops l1 q15a = true) (c2 : chkOps Try.prog C.n ops l2 q15b = true) (ho : o.op = .lookup 87 (.tmp 41) (.tmp 42) false) (hd : o.dst = some 43) (hg : o.guard = none) (hn : 43 < C.n)
    (hR : R C ι S (s30a l (.map (some m)) i f) [(768, robj r)] a w) (hF : Fams C ι S [(768, robj r)] w l' m none g L)
    (hK : ∀ w1 ι2 S1 ι' S' a' w', ι2 3000640 = L f → HR ι2 S1 (h30b r (fam l' f)) w1 → Fams C ι2 S1 (h30b r (fam l' f)) w1 l' m (some f) g L → Base C ι2 S1 (h30b r (fam l' f)) w1 →
      R (C.now w1 ι2 S1 (h30b r (fam l' f))) ι' S' ((45, .c (.int .i64 0)) :: (44, .c (.int .i64 (fam l' f).length)) :: s30b l (.map (some m)) i f (fam l' f)) (h30b r (fam l' f)) a' w' → Q .normal a' w') :
    (Code.region 15 ops false).wp Try.prog Q a w := by
  refine wp_region_list ?_
  rw [hops]
  refine opsP_sound (C := C.now w ι S [(768, robj r)]) l1 q15a c1 hR.rebase (rn_ok (.reg q15a) (fun _ _ _ h => h) (wa15a l _ i f r (fun e σ H => e = .norm ∧ Has σ ((42, .c (.int .i64 f)) :: (41, .c (.raw (.map (some m)))) :: s30a l (.map (some m)) i f) ∧ H = [(768, robj r)]) fun σ h => ⟨rfl, h, rfl⟩)) fun ι3 S3 σ3 H3 a3 w3 hq h3 => ?_
  obtain ⟨_, hs, rfl⟩ := hq
  have F3 := hF.step hR.hr h3
  have h3 := R.unbase hR.base h3 no_ids
  refine op_val hg (ex_look ho (by rw [slot_raw h3 hs.2.1, slot_i64 h3 hs.1]; exact F3.mp.look map87 keys87 (zero22 w3) ⟨f, rfl⟩)) ?_
  rw [hd]
  have hnone : LH.get [(768, robj r)] 3000640 = none := rfl
  have h4 := h3.adopt (id := 3000640) (e := 8) (xs := recs (fam l' f)) (L := L f) hnone (F3.row f (by simp)) (fun hn => (F3.hid f (by simp) hn).1)
  have F4 := F3.adopt f hnone
  have b4 : Base C (updL ι3 3000640 (L f)) S3 (h30b r (fam l' f)) w3 := ⟨h3.fr, h3.sub, h3.sup, fun b hb => (OwnB.adopt hb).elim (fun hb => h3.base.own b hb) fun ⟨e1, e2⟩ => .inr (e2 ▸ (F3.hid f (by simp) e1).2.1), fun b _ hs => ⟨h3.hr.slt b hs, fun ⟨id, ho, e⟩ => h4.hr.disj id ho (e ▸ hs)⟩⟩
  have h5 := h4.put (d := some 43) (av := .osl 3000640 0 (fam l' f).length) (v := g (.int .i64 f)) (.osl _ _ _ _ (by
    show OslOK (updL ι3 3000640 (L f)) (h30b r (fam l' f)) 3000640 0 _ _
    unfold OslOK
    show _ ∧ _
    rw [updL_same]
    exact ⟨by rw [recs_len]; omega, F3.sl f⟩)) (fun k hk => by injection hk with hk; subst hk; exact hn)
  have h6 := R.weak (l := s30b l (.map (some m)) i f (fam l' f)) h5 ⟨rfl, hs.2.2.1, hs.2.2.2.1, hs.2.2.2.2.1, hs.2.2.2.2.2.1, hs.2.2.2.2.2.2.1, hs.2.2.2.2.2.2.2.1, hs.2.2.2.2.2.2.2.2.1, trivial⟩
  refine ops_sound (C := C.now w3 (updL ι3 3000640 (L f)) S3 (h30b r (fam l' f))) l2 q15b c2 h6 (rn_ok (.reg q15b) (fun _ _ _ h => h) (wa15b l _ i f r (fam l' f) (fun e σ H => e = .norm ∧ Has σ ((45, .c (.int .i64 0)) :: (44, .c (.int .i64 (fam l' f).length)) :: s30b l (.map (some m)) i f (fam l' f)) ∧ H = h30b r (fam l' f)) fun σ h => ⟨rfl, h, rfl⟩)) fun ι7 S7 σ7 H7 a7 w7 hq h7 => ?_
  obtain ⟨_, hs7, rfl⟩ := hq
  exact hK w3 _ S3 ι7 S7 a7 w7 (updL_same _ _ _) h4.hr F4 b4 (h7.weak hs7)
theorem reg21 {ops : Array Oper} {l1 l2 : List Oper} {o o2 : Oper} {Q : Exit → Act → World → Prop} {r : Rec} {i : Nat} {l' : List Rec} {w1 : World} {ι2 : Nat → Loc} {S1 : Nat → Nat → Prop} {f : Int} (hO : ∀ b, ¬ C.O b) (hf : f = famK r.kind)
    (hops : ops.toList = l1 ++ (o :: (l2 ++ [o2]))) (c1 : chkOps Try.prog C.n ops l1 q21a = true) (c2 : chkOps Try.prog C.n ops l2 q21b = true) (ho : o.op = .lookup 87 (.tmp 92) (.tmp 93) false) (hd : o.dst = some 94) (hg : o.guard = none) (hn : 94 < C.n)
    (ho2 : o2.op = .mapUpdate 87 (.tmp 90) (.tmp 91) (.tmp 97)) (hd2 : o2.dst = none) (hg2 : o2.guard = none) (hlen : (fam l' f).length ≤ 4096)
    (e2 : ι2 3000640 = L f) (hr1 : HR ι2 S1 (h30b r (fam l' f)) w1) (F1 : Fams C ι2 S1 (h30b r (fam l' f)) w1 l' m (some f) g L) (b1 : Base C ι2 S1 (h30b r (fam l' f)) w1)
    (hR : R (C.now w1 ι2 S1 (h30b r (fam l' f))) ι S (s30b l (.map (some m)) i f (fam l' f)) [(3000640, .row 8 (recs (fam l' f))), (768, robj r)] a w)
    (hK : ∀ ι' S' a' w' g' L', R C ι' S' (s30 l (.map (some m)) i) [] a' w' → Fams C ι' S' [] w' (l' ++ [r]) m none g' L' → Q .normal a' w') :
    (Code.region 21 ops false).wp Try.prog Q a w := by
  refine wp_region_list ?_
  rw [hops]
  refine opsP_sound (C := C.now w1 ι2 S1 (h30b r (fam l' f))) l1 q21a c1 hR (rn_ok (.reg q21a) (fun _ _ _ h => h) (wa21a l _ i f r (fam l' f) (fun e σ H => e = .norm ∧ Has σ ((93, .c (.int .i64 f)) :: (92, .c (.raw (.map (some m)))) :: (91, .c (.int .i64 f)) :: (90, .c (.raw (.map (some m)))) :: s30b l (.map (some m)) i f (fam l' f)) ∧ H = [(3000640, .row 8 (recs (fam l' f))), (768, robj r)]) fun σ h => ⟨rfl, h, rfl⟩)) fun ι3 S3 σ3 H3 a3 w3 hq h3 => ?_
  obtain ⟨_, hs, rfl⟩ := hq
  have F3 := F1.step hr1 h3
  have hs93 := hs.1
  have hs92 := hs.2.1
  refine op_val hg (ex_look ho (by rw [slot_raw h3 hs92, slot_i64 h3 hs93]; exact F3.mp.look map87 keys87 (zero22 w3) ⟨f, rfl⟩)) ?_
  rw [hd]
  have hg3 : LH.get [(3000640, LObj.row 8 (recs (fam l' f))), (768, robj r)] 3000640 = some (.row 8 (recs (fam l' f))) := rfl
  have e3 : ι3 3000640 = L f := (h3.loc 3000640 _ hg3 trivial (by decide)).trans e2
  have h5 := h3.put (d := some 94) (av := .osl 3000640 0 (fam l' f).length) (v := g (.int .i64 f)) (.osl _ _ _ _ (by
    unfold OslOK
    rw [hg3]
    show _ ∧ _
    rw [e3]
    exact ⟨by rw [recs_len]; omega, F3.sl f⟩)) (fun k hk => by injection hk with hk; subst hk; exact hn)
  obtain ⟨_, _, s91, s90, s43, s10, s8, s9, s7, s31, s32, s33, _⟩ := hs
  have h6 := R.weak (l := (94, .osl 3000640 0 (fam l' f).length) :: (91, .c (.int .i64 f)) :: (90, .c (.raw (.map (some m)))) :: (9, .ref 768 0) :: s30 l (.map (some m)) i) h5 ⟨rfl, s91, s90, s9, s7, s31, s32, s33, trivial⟩
  refine opsP_sound (C := C.now w1 ι2 S1 (h30b r (fam l' f))) l2 q21b c2 h6 (rn_ok (.reg q21b) (fun _ _ _ h => h) (wa21b l _ i f r (fam l' f) hlen (fun e σ H => e = .norm ∧ Has σ ((97, .osl 2624 0 ((fam l' f).length + 1)) :: (91, .c (.int .i64 f)) :: (90, .c (.raw (.map (some m)))) :: s30 l (.map (some m)) i) ∧ LH.get H 2624 = some (.row 8 (recs (fam l' f ++ [r]))) ∧ (∀ id ob, argBase ≤ id → LH.get H id = some ob → ¬ ob.own)) fun σ H h h' h'' => ⟨rfl, h, h', h''⟩)) fun ι4 S4 σ4 H4 a4 w4 hq h4 => ?_
  obtain ⟨_, hs4, hg4, hid4⟩ := hq
  have F4 := F1.step hr1 h4
  have h4 := R.unbase b1 h4 hid4
  obtain ⟨s97, s91, s90, hs30⟩ := hs4
  have a97 := h4.sl 97
  rw [s97] at a97
  have sl97 := (oslOK_row (avr_osl a97) (.inl hg4)).2
  generalize hv97 : a4.tmps.getD 97 Go.undef = v97 at a97 sl97
  obtain ⟨X, hX1, hX2⟩ := F4.mp.put map87 keys87 (k := .int .i64 f) ⟨f, rfl⟩ v97
  refine op_skip hg2 hd2 (ex_put ho2 (by
    rw [slot_raw h4 s90, slot_i64 h4 s91]
    show (Instr.mapUpdate 87 _ _ (a4.tmps.getD 97 Go.undef)).run _ _ = _
    rw [hv97]; exact hX1)) ?_
  have h7 := h4.hid F4.hm F4.hC X
  have h8 := R.drop (l := [(7, .raw (.map (some m))), (31, .sl 8 (recs l)), (32, .int .i64 l.length), (33, .int .i64 i)]) h7 hs30
  unfold wpList
  have ow : (ι4 2624).isnil = false → Owned ι4 H4 2624 := fun hn => by unfold Owned; rw [hg4]; exact hn
  refine hK ι4 S4 a4 _ _ (fun f' => if f' = f then ι4 2624 else L f') h8 ⟨hX2, (F4.hm.hid X).nil, F4.hC, fun f' _ => ?_, fun f' => ?_, fun f' _ hn => ?_, fun f1 f2 hn1 hn2 he => ?_⟩
  · rw [fam_snoc]
    have kb : ∀ (b : Nat), b ≠ m → (w4.heap.setIfInBounds m X)[b]? = w4.heap[b]? := fun b hb => by rw [Array.getElem?_setIfInBounds_ne (Ne.symm hb)]
    have kS : ∀ (b o : Nat) (x : Value), S4 b o → w4.cell? ⟨b, o, none⟩ = some x → S4 b o ∧ ({ w4 with heap := w4.heap.setIfInBounds m X } : World).cell? ⟨b, o, none⟩ = some x := fun b o x hs hx =>
      ⟨hs, by rw [cell_block (w := w4) (show (w4.heap.setIfInBounds m X)[b]? = w4.heap[b]? from kb b (fun e => F4.hm.2.1 (e ▸ hs)))]; exact hx⟩
    by_cases hff : f' = f
    · simp only [hff, if_true, ← hf]
      exact (h4.hr.row _ _ _ hg4).mono kS fun hn => kb _ fun e => F4.hm.2.2 ⟨2624, ow hn, e⟩
    · rw [if_neg hff, if_neg (by rw [← hf]; exact Ne.symm hff)]
      exact (F4.row f' (by simpa using Ne.symm hff)).mono kS fun hn => kb _ (F4.hid f' (by simpa using Ne.symm hff) hn).2.2
  · rw [fam_snoc]
    by_cases hff : f' = f
    · simp only [hff, if_true, ← hf]
      rw [List.length_append]
      exact sl97
    · rw [if_neg hff, if_neg (by rw [← hf]; exact Ne.symm hff)]
      have : ¬ (Value.int .i64 f' = Value.int .i64 f) := fun h => by injection h with _ h; exact hff h
      rw [if_neg this]
      exact F4.sl f'
  · by_cases hff : f' = f
    · simp only [hff, if_true] at hn ⊢
      refine ⟨⟨?_, ?_, ?_⟩, ?_, ?_⟩
      · simpa using h4.hr.lt 2624 (ow hn)
      · exact h4.hr.disj 2624 (ow hn)
      · intro ⟨id, ho, _⟩; unfold Owned at ho; simp [LH.get] at ho
      · exact (h4.own 2624 (ow hn)).resolve_left (hO _)
      · exact fun e => F4.hm.2.2 ⟨2624, ow hn, e⟩
    · simp only [if_neg hff] at hn ⊢
      have := F4.hid f' (by simpa using Ne.symm hff) hn
      exact ⟨(this.1.hid X).nil, this.2⟩
  · by_cases h1 : f1 = f <;> by_cases h2 : f2 = f
    · rw [h1, h2]
    · simp only [h1, if_true, if_neg h2] at hn1 hn2 he
      exact absurd ⟨2624, ow hn1, he⟩ (F4.hid f2 (by simpa using Ne.symm h2) hn2).1.2.2
    · simp only [h2, if_true, if_neg h1] at hn1 hn2 he
      exact absurd ⟨2624, ow hn2, he.symm⟩ (F4.hid f1 (by simpa using Ne.symm h1) hn1).1.2.2
    · simp only [if_neg h1, if_neg h2] at hn1 hn2 he
      exact F4.inj f1 f2 hn1 hn2 he
end Go.Proofs.Ytcpdnpaedkcebaa.V
namespace Go.Proofs.Ytcpdnpaedkcebaa.V
open Go Go.RowKit
set_option linter.unusedVariables false
set_option linter.unusedSimpArgs false
set_option maxRecDepth 100000
def rs30 : List (Nat × Option Nat × Mode) := [(2, none, .plain), (3, none, .plain)]
def x10 (f : Func) : Array Oper := opsOf (seqA (seqB (seqB (seqB (codeOf f)))))
def x15 (f : Func) : Array Oper := opsOf (seqA (seqA (seqB (seqB (blkC (seqA (seqB (seqB (loopC (blkC (seqB (seqA (seqB (seqB (seqB (seqB (codeOf f)))))))))))))))))
def x21 (f : Func) : Array Oper := opsOf (seqB (seqB (seqB (blkC (seqA (seqB (seqB (loopC (blkC (seqB (seqA (seqB (seqB (seqB (seqB (codeOf f))))))))))))))))
def at_ (x : Array Oper) (i : Nat) : Oper := x.toList.getD i default
theorem x10_l : (x10 Try.f30).toList = [at_ (x10 Try.f30) 0, at_ (x10 Try.f30) 1] := by kernel_rfl
theorem x10_0 : (at_ (x10 Try.f30) 0).op = .makeMap 87 none ∧ (at_ (x10 Try.f30) 0).dst = some 30 ∧ (at_ (x10 Try.f30) 0).guard = none := ⟨by kernel_rfl, by kernel_rfl, by kernel_rfl⟩
theorem x10_1 : (at_ (x10 Try.f30) 1).op = .assign (.tmp 30) ∧ (at_ (x10 Try.f30) 1).dst = some 7 ∧ (at_ (x10 Try.f30) 1).guard = none := ⟨by kernel_rfl, by kernel_rfl, by kernel_rfl⟩
theorem x15_l : (x15 Try.f30).toList = (x15 Try.f30).toList.take 2 ++ (at_ (x15 Try.f30) 2 :: (x15 Try.f30).toList.drop 3) := by kernel_rfl
theorem x15_a : chkOps Try.prog Try.f30.ntmps (x15 Try.f30) ((x15 Try.f30).toList.take 2) q15a = true := by decide +kernel
theorem x15_b : chkOps Try.prog Try.f30.ntmps (x15 Try.f30) ((x15 Try.f30).toList.drop 3) q15b = true := by decide +kernel
theorem x15_2 : (at_ (x15 Try.f30) 2).op = .lookup 87 (.tmp 41) (.tmp 42) false ∧ (at_ (x15 Try.f30) 2).dst = some 43 ∧ (at_ (x15 Try.f30) 2).guard = none := ⟨by kernel_rfl, by kernel_rfl, by kernel_rfl⟩
theorem x21_l : (x21 Try.f30).toList = (x21 Try.f30).toList.take 4 ++ (at_ (x21 Try.f30) 4 :: (((x21 Try.f30).toList.drop 5).take 3 ++ [at_ (x21 Try.f30) 8])) := by kernel_rfl
theorem x21_a : chkOps Try.prog Try.f30.ntmps (x21 Try.f30) ((x21 Try.f30).toList.take 4) q21a = true := by decide +kernel
theorem x21_b : chkOps Try.prog Try.f30.ntmps (x21 Try.f30) (((x21 Try.f30).toList.drop 5).take 3) q21b = true := by decide +kernel
theorem x21_4 : (at_ (x21 Try.f30) 4).op = .lookup 87 (.tmp 92) (.tmp 93) false ∧ (at_ (x21 Try.f30) 4).dst = some 94 ∧ (at_ (x21 Try.f30) 4).guard = none := ⟨by kernel_rfl, by kernel_rfl, by kernel_rfl⟩
theorem x21_8 : (at_ (x21 Try.f30) 8).op = .mapUpdate 87 (.tmp 90) (.tmp 91) (.tmp 97) ∧ (at_ (x21 Try.f30) 8).dst = none ∧ (at_ (x21 Try.f30) 8).guard = none := ⟨by kernel_rfl, by kernel_rfl, by kernel_rfl⟩
theorem n30 : Try.f30.ntmps = 99 := by kernel_rfl
section
variable {C : Ctx} {ι : Nat → Loc} {S : Nat → Nat → Prop} {σ : Slots} {H : LH} {a : Act} {w : World} {m : Nat}
theorem reg10 {l : List Rec} {Q : Exit → Act → World → Prop} (hn : C.n = Try.f30.ntmps) (hR : R C ι S [(0, .c (.sl 8 (recs l)))] [] a w)
    (hK : ∀ m a' w' g L, R C ι S [(0, .c (.sl 8 (recs l))), (7, .c (.raw (.map (some m))))] [] a' w' → Fams C ι S [] w' [] m none g L → Q .normal a' w') :
    (Code.region 10 (x10 Try.f30) false).wp Try.prog Q a w := by
  refine wp_region_list ?_
  rw [x10_l]
  obtain ⟨p1, p2, p3⟩ := x10_0
  obtain ⟨q1, q2, q3⟩ := x10_1
  refine op_val p3 (ex_map p1) ?_
  rw [p2]
  obtain ⟨h1, hh⟩ := hR.newhid (.map #[] 0)
  have h2 := h1.put (d := some 30) (av := .c (.raw (.map (some w.heap.size)))) (v := .map (some w.heap.size)) (.c _ _ (.raw _)) (fun k hk => by injection hk with hk; subst hk; rw [hn, n30]; decide)
  have hv := slot_raw h2 (t := 30) rfl
  refine op_val (v := (a.put (some 30) (.map (some w.heap.size))).tmps.getD 30 Go.undef) q3 (by
    unfold execOp
    simp only [q1]
    rfl) ?_
  rw [q2, hv]
  have h3 := h2.put (d := some 7) (av := .c (.raw (.map (some w.heap.size)))) (v := .map (some w.heap.size)) (.c _ _ (.raw _)) (fun k hk => by injection hk with hk; subst hk; rw [hn, n30]; decide)
  unfold wpList
  refine hK w.heap.size _ _ (fun _ => .slice none 0 0) (fun _ => ⟨0, 0, 0, true⟩) (h3.weak (l := [(0, .c (.sl 8 (recs l))), (7, .c (.raw (.map (some w.heap.size))))]) ⟨rfl, rfl, trivial⟩) ⟨MapAt.new w isI _, hh, hR.fr.size, fun f _ => ?_, fun f => ?_, fun f _ hn => (by cases hn), fun f f' hn => (by cases hn)⟩
  · unfold RowR; simp [fam, recs]
  · unfold SliceAt
    simp [fam]
end
theorem cw30 (l : List Rec) (hl : ∀ r ∈ l, r.ok) (hto : ∀ r ∈ l, r.to.length ≤ 35184372088832) : CW Try.prog 30 [.cv (.sl 8 (recs l))] ⟨[.cv (.int .i64 (checkP l).1), .cv (.int .i64 (checkP l).2)], []⟩ := by
  refine CW.hand (c := codeOf Try.f30) rs30 [] Try.func30 (by kernel_rfl) (by decide +kernel) (by decide +kernel) (by show 1 ≤ _; rw [n30]; decide) (by show 1 ≤ 8; decide) trivial (fun C ι S a w hn hO' hR => ?_)
  have hO : ∀ b, ¬ C.O b := fun b hb => by rw [hO'] at hb; obtain ⟨id, ho, _⟩ := hb; exact ho
  have fin : ∀ {e : Exit} {ι1 : Nat → Loc} {S1 : Nat → Nat → Prop} {σ1 : Slots} {H1 : LH} {a1 : Act} {w1 : World} {p : Int × Int}, (e = .normal ∨ e = .ret) → p = checkP l → R C ι1 S1 σ1 H1 a1 w1 → Slots.get σ1 2 = .c (.int .i64 p.1) → Slots.get σ1 3 = .c (.int .i64 p.2) →
      (e = .normal ∨ e = .ret) ∧ ∃ ι' S' σ' H', R C ι' S' σ' H' a1 w1 ∧ retW σ' H' rs30 [.cv (.sl 8 (recs l))] [] ⟨[.cv (.int .i64 (checkP l).1), .cv (.int .i64 (checkP l).2)], []⟩ := by
    intro e ι1 S1 σ1 H1 a1 w1 p he hp h h2 h3
    subst hp
    exact ⟨he, ι1, S1, σ1, H1, h, ret2 rfl h2 h3⟩
  have hR : R C ι S [(0, .c (.sl 8 (recs l)))] [] a w := hR
  generalize hQ : (fun (e : Exit) (a1 : Act) (w1 : World) => (e = .normal ∨ e = .ret) ∧ ∃ ι' S' σ' H', R C ι' S' σ' H' a1 w1 ∧ retW σ' H' rs30 [.cv (.sl 8 (recs l))] [] ⟨[.cv (.int .i64 (checkP l).1), .cv (.int .i64 (checkP l).2)], []⟩) = Q
  have fin : ∀ {ι1 : Nat → Loc} {S1 : Nat → Nat → Prop} {σ1 : Slots} {H1 : LH} {a1 : Act} {w1 : World} {p : Int × Int}, p = checkP l → R C ι1 S1 σ1 H1 a1 w1 → Slots.get σ1 2 = .c (.int .i64 p.1) → Slots.get σ1 3 = .c (.int .i64 p.2) → Q .ret a1 w1 := by
    subst hQ; exact fun hp h h2 h3 => fin (.inr rfl) hp h h2 h3
  clear hQ
  rw [split30]
  refine wp_seq (code_sound (C := C) p0 _ (by rw [hn]; exact chk_p0) hR (rn_ok _ (fun _ _ _ h => h) (wa30_0 l (fun e σ H => e = .norm ∧ Has σ [(0, .c (.sl 8 (recs l)))] ∧ H = []) fun σ h => ⟨rfl, h, rfl⟩)) fun e ι1 S1 σ1 H1 a1 w1 hq h1 => ?_)
  obtain ⟨rfl, hs1, rfl⟩ := hq
  have h1 := R.weak h1 hs1
  refine wp_seq (code_sound (C := C) p1 _ (by rw [hn]; exact chk_p1) h1 (rn_ok _ (fun _ _ _ h => h) (wa30_1 l (fun e σ H => (e = .ret ∧ 4096 < l.length ∧ Has σ [(2, .c (.int .i64 0)), (3, .c (.int .i64 3))]) ∨ (e = .norm ∧ ¬ 4096 < l.length ∧ Has σ [(0, .c (.sl 8 (recs l)))] ∧ H = [])) (fun h4 σ H h => .inl ⟨rfl, h4, h⟩) fun h4 σ h => .inr ⟨rfl, h4, h, rfl⟩)) fun e ι2 S2 σ2 H2 a2 w2 hq h2 => ?_)
  rcases hq with ⟨rfl, h4, hs2⟩ | ⟨rfl, h4, hs2, rfl⟩
  · exact fin (p := (0, 3)) (by unfold checkP; rw [if_pos h4]) h2 hs2.1 hs2.2.1
  have h2 := R.weak h2 hs2
  refine wp_seq (code_sound (C := C) p2 _ (by rw [hn]; exact chk_p2) h2 (rn_ok _ (fun _ _ _ h => h) (wa30_2 l hto (by omega) (fun e σ H => (e = .ret ∧ ∃ i e, rightsP l 0 = some (i, e) ∧ Has σ [(2, .c (.int .i64 i)), (3, .c (.int .i64 e))]) ∨ (e = .norm ∧ rightsP l 0 = none ∧ Has σ [(0, .c (.sl 8 (recs l)))] ∧ H = [])) (fun i e h4 σ H h => .inl ⟨rfl, i, e, h4, h⟩) fun h4 σ h => .inr ⟨rfl, h4, h, rfl⟩)) fun e ι3 S3 σ3 H3 a3 w3 hq h3 => ?_)
  rcases hq with ⟨rfl, i, er, h5, hs3⟩ | ⟨rfl, h5, hs3, rfl⟩
  · exact fin (p := (i, er)) (by unfold checkP; rw [if_neg h4, h5]) h3 hs3.1 hs3.2.1
  have h3 := R.weak h3 hs3
  have hright := rightsP_none l 0 h5
  have ec : checkP l = match twiceP [] l 0 with | some i => (i, 62) | none => (0, 0) := by unfold checkP; rw [if_neg h4, h5] <;> rfl
  refine wp_seq (reg10 hn h3 fun m a4 w4 g L h6 F6 => ?_)
  refine wp_seq (wp_seq (code_sound (C := C.now w4 ι3 S3 []) p11 _ (by show chkC _ C.n _ _ = true; rw [hn]; exact chk_p11) h6.rebase (rn_ok _ (fun _ _ _ h => h) (wa30_11 l (.map (some m)) (fun e σ H => e = .norm ∧ Has σ (s30 l (.map (some m)) 0) ∧ H = []) fun σ h => ⟨rfl, h, rfl⟩)) fun e ι7 S7 σ7 H7 a7 w7 hq h7 => ?_))
  obtain ⟨rfl, hs7, rfl⟩ := hq
  have F7 := F6.step h6.hr h7
  have h7 := R.weak (R.unbase h6.base h7 no_ids0) hs7
  refine wp_block (LoopFrom.loop ?_)
  have main : ∀ (k i : Nat) (ι : Nat → Loc) (S : Nat → Nat → Prop) (a : Act) (w : World) (g : Value → Value) (L : Int → Loc), l.length - i < k → i ≤ l.length → twiceP (l.take i) (l.drop i) i = twiceP [] l 0 → R C ι S (s30 l (.map (some m)) i) [] a w → Fams C ι S [] w (l.take i) m none g L →
      LoopFrom Try.prog (loopC (blkC (seqB (seqA (seqB (seqB (seqB (seqB (codeOf Try.f30)))))))))
        (Exit.inBlock 2 (Exit.then (Code.wp Try.prog (seqB (seqB (seqB (seqB (seqB (codeOf Try.f30)))))) Q) Q)) a w := by
    intro k
    induction k with
    | zero => intro i _ _ _ _ _ _ h; omega
    | succ k ih =>
      intro i ι S a w g L hk hi htw hR hF
      refine LoopFrom.round ?_
      rw [split30b]
      refine wp_seq (code_sound (C := C.now w ι S []) p12 _ (by show chkC _ C.n _ _ = true; rw [hn]; exact chk_p12) hR.rebase (rn_ok _ (fun _ _ _ h => h) (wa30_12 l (.map (some m)) i (fun e σ H => e = .norm ∧ Has σ ((34, .c (.bool (decide ((i : Int) < l.length)))) :: s30 l (.map (some m)) i) ∧ H = []) fun σ h => ⟨rfl, h, rfl⟩)) fun e ι1 S1 σ1 H1 a1 w1 hq h1 => ?_)
      obtain ⟨rfl, hs1, rfl⟩ := hq
      have F1 := hF.step hR.hr h1
      have h1 := R.weak (R.unbase hR.base h1 no_ids0) hs1
      refine wp_seq (code_sound (C := C.now w1 ι1 S1 []) pc _ (by show chkC _ C.n _ _ = true; rw [hn]; exact chk_pc) h1.rebase (rn_ok _ (fun _ _ _ h => h) (wa30_c l (.map (some m)) i (fun e σ H => (e = .norm ∧ i < l.length ∧ Has σ (s30 l (.map (some m)) i) ∧ H = []) ∨ (e = .exit 2 ∧ l.length ≤ i ∧ Has σ (s30 l (.map (some m)) i) ∧ H = [])) (fun hi σ h => .inl ⟨rfl, hi, h, rfl⟩) fun hi σ h => .inr ⟨rfl, hi, h, rfl⟩)) fun e ι2 S2 σ2 H2 a2 w2 hq h2 => ?_)
      rcases hq with ⟨rfl, hlt, hs2, rfl⟩ | ⟨rfl, hge, hs2, rfl⟩
      rotate_left
      · have h2 := R.weak (l := []) (R.unbase h1.base h2 no_ids0) trivial
        show Code.wp Try.prog (seqB (seqB (seqB (seqB (seqB (codeOf Try.f30)))))) Q a2 w2
        refine code_sound (C := C) pe _ (by rw [hn]; exact chk_pe) h2 (rn_ok _ (fun _ _ _ h => h) (wa30_e (fun e σ H => e = .ret ∧ Has σ [(2, .c (.int .i64 0)), (3, .c (.int .i64 0))]) fun σ h => ⟨rfl, h⟩)) fun e ι3 S3 σ3 H3 a3 w3 hq h3 => ?_
        obtain ⟨rfl, hs3⟩ := hq
        refine fin (p := (0, 0)) ?_ h3 hs3.1 hs3.2.1
        have : i = l.length := by omega
        rw [this, List.drop_length, twiceP] at htw
        rw [ec, ← htw]
      have F2 := F1.step h1.hr h2
      have h2 := R.weak (R.unbase h1.base h2 no_ids0) hs2
      obtain ⟨r, er, hm, hd⟩ := recs_at hlt
      have etake : l.take (i + 1) = l.take i ++ [r] := by
        rw [List.take_add_one, List.getElem?_eq_getElem hlt]
        have h2 : l.drop i = l[i] :: l.drop (i + 1) := List.drop_eq_getElem_cons hlt
        rw [h2] at hd
        injection hd with hd1 hd2
        rw [hd1]; rfl
      rw [hd, twiceP] at htw
      have hsub : ∀ o ∈ fam (l.take i) (famK r.kind), o ∈ l := fun o ho => List.mem_of_mem_take (List.mem_filter.1 ho).1
      have hfl : (fam (l.take i) (famK r.kind)).length ≤ 4096 := by
        have h1 := List.length_filter_le (fun o : Rec => decide (famK o.kind = famK r.kind)) (l.take i)
        have h2 : (l.take i).length ≤ l.length := by rw [List.length_take]; omega
        unfold fam; omega
      refine wp_seq (wp_block (wp_seq (code_sound (C := C.now w2 ι2 S2 []) p13 _ (by show chkC _ C.n _ _ = true; rw [hn]; exact chk_p13) h2.rebase (rn_ok _ (fun _ _ _ h => h) (wa30_13 l (.map (some m)) i r hlt er (fun e σ H => e = .norm ∧ Has σ ((8, .c (.int .i64 i)) :: (9, .ref 768 0) :: s30 l (.map (some m)) i) ∧ H = [(768, robj r)]) fun σ h => ⟨rfl, h, rfl⟩)) fun e ι3 S3 σ3 H3 a3 w3 hq h3 => ?_)))
      obtain ⟨rfl, hs3, rfl⟩ := hq
      have F3 := F2.step h2.hr h3
      have h3 := R.weak (R.unbase h2.base h3 no_ids) hs3
      refine wp_seq (code_sound (C := C.now w3 ι3 S3 [(768, robj r)]) p14 _ (by show chkC _ C.n _ _ = true; rw [hn]; exact chk_p14) h3.rebase (rn_ok _ (fun _ _ _ h => h) (wa30_14 l (.map (some m)) i r (fun e σ H => e = .norm ∧ Has σ (s30a l (.map (some m)) i (famK r.kind)) ∧ H = [(768, robj r)]) fun σ h => ⟨rfl, h, rfl⟩)) fun e ι4 S4 σ4 H4 a4 w4 hq h4 => ?_)
      obtain ⟨rfl, hs4, rfl⟩ := hq
      have F4 := F3.step h3.hr h4
      have h4 := R.weak (R.unbase h3.base h4 no_ids) hs4
      refine wp_seq (wp_seq (reg15 x15_l (by rw [hn]; exact x15_a) (by rw [hn]; exact x15_b) x15_2.1 x15_2.2.1 x15_2.2.2 (by rw [hn, n30]; decide) h4 F4 fun w5 ι5 S5 ι6 S6 a6 w6 e5 hr5 F5 b5 h6 => ?_))
      refine code_sound (C := C.now w5 ι5 S5 (h30b r (fam (l.take i) (famK r.kind)))) p4 _ (by show chkC _ C.n _ _ = true; rw [hn]; exact chk_p4) h6 (rn_ok _ (fun _ _ _ h => h) (wa30_4 l (.map (some m)) i r (fam (l.take i) (famK r.kind)) hfl (hl r hm) (hright r hm) (fun o ho => ⟨hl o (hsub o ho), hright o (hsub o ho)⟩)
        (fun e σ H => (e = .ret ∧ (fam (l.take i) (famK r.kind)).any (fun o => clashP (famK r.kind) o r) = true ∧ Has σ [(2, .c (.int .i64 i)), (3, .c (.int .i64 62))]) ∨ (e = .norm ∧ (fam (l.take i) (famK r.kind)).any (fun o => clashP (famK r.kind) o r) = false ∧ Has σ (s30b l (.map (some m)) i (famK r.kind) (fam (l.take i) (famK r.kind))) ∧ H = [(3000640, .row 8 (recs (fam (l.take i) (famK r.kind)))), (768, robj r)]))
        (fun ha σ H h => .inl ⟨rfl, ha, h⟩) fun ha σ h => .inr ⟨rfl, ha, h, rfl⟩)) fun e ι7 S7 σ7 H7 a7 w7 hq h7 => ?_
      rcases hq with ⟨rfl, ha, hs7⟩ | ⟨rfl, ha, hs7, rfl⟩
      · have h7 := R.drop (l := [(2, .int .i64 i), (3, .int .i64 62)]) h7 hs7
        have h7 := R.unbase b5 h7 no_ids0
        show Q .ret a7 w7
        refine fin (p := (i, 62)) ?_ h7 rfl rfl
        rw [if_pos ha] at htw
        rw [ec, ← htw]
      rw [if_neg (by rw [ha]; simp)] at htw
      have h7 := R.weak h7 hs7
      refine reg21 hO rfl x21_l (by rw [hn]; exact x21_a) (by rw [hn]; exact x21_b) x21_4.1 x21_4.2.1 x21_4.2.2 (by rw [hn, n30]; decide) x21_8.1 x21_8.2.1 x21_8.2.2 hfl e5 hr5 F5 b5 h7 fun ι8 S8 a8 w8 g8 L8 h8 F8 => ?_
      refine code_sound (C := C.now w8 ι8 S8 []) p22 _ (by show chkC _ C.n _ _ = true; rw [hn]; exact chk_p22) h8.rebase (rn_ok _ (fun _ _ _ h => h) (wa30_22 l (.map (some m)) i hlt (by omega) (fun e σ H => e = .norm ∧ Has σ (s30 l (.map (some m)) (i + 1)) ∧ H = []) fun σ h => ⟨rfl, h, rfl⟩)) fun e ι9 S9 σ9 H9 a9 w9 hq h9 => ?_
      obtain ⟨rfl, hs9, rfl⟩ := hq
      have F9 := F8.step h8.hr h9
      have h9 := R.weak (R.unbase h8.base h9 no_ids0) hs9
      rw [← etake] at F9 htw
      exact ih (i + 1) ι9 S9 a9 w9 g8 L8 (by omega) hlt htw h9 F9
  exact main _ 0 ι7 S7 a7 w7 g L (Nat.lt_succ_self _) (Nat.zero_le _) rfl h7 F7
end Go.Proofs.Ytcpdnpaedkcebaa.V
