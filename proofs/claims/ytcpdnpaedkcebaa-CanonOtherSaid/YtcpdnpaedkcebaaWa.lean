/- Contracts: small functions of numbers. -/
import Derived.Test.YtcpdnpaedkcebaaVw
import Derived.Test.YtcpdnpaedkcebaaProg
namespace Go.Proofs.Ytcpdnpaedkcebaa.V
open Go Go.RowKit
set_option linter.unusedVariables false
set_option linter.unusedSimpArgs false
set_option maxRecDepth 100000
/- endonym/table.Family -/
def b28 : IC := (.seq (.reg [⟨(some 2), 0, none, .mv (.c (.int .i64 0))⟩]) (.seq (.seq (.reg [⟨(some 3), 0, none, .mv (.t 0)⟩]) (.block 0 (.seq (.seq (.reg [⟨(some 5), 0, none, .bin .eql (.t 3) (.c (.int .i64 1))⟩,
  ⟨(some 4), 0, none, .mv (.t 5)⟩]) (.cond (.t 4) .skip (.seq (.reg [⟨(some 6), 0, none, .bin .eql (.t 3) (.c (.int .i64 2))⟩,
  ⟨(some 4), 0, none, .mv (.t 6)⟩]) (.cond (.t 4) .skip (.seq (.reg [⟨(some 7), 0, none, .bin .eql (.t 3) (.c (.int .i64 3))⟩,
  ⟨(some 4), 0, none, .mv (.t 7)⟩]) (.cond (.t 4) .skip (.seq (.reg [⟨(some 8), 0, none, .bin .eql (.t 3) (.c (.int .i64 4))⟩,
  ⟨(some 4), 0, none, .mv (.t 8)⟩]) (.cond (.t 4) .skip (.reg [⟨(some 9), 0, none, .bin .eql (.t 3) (.c (.int .i64 5))⟩,
  ⟨(some 4), 0, none, .mv (.t 9)⟩]))))))))) (.cond (.t 4) (.seq (.reg [⟨(some 2), 0, none, .mv (.c (.int .i64 1))⟩]) .ret) (.seq (.reg [⟨(some 11), 0, none, .bin .eql (.t 3) (.c (.int .i64 6))⟩,
  ⟨(some 10), 0, none, .mv (.t 11)⟩]) (.cond (.t 10) (.seq (.reg [⟨(some 2), 0, none, .mv (.c (.int .i64 2))⟩]) .ret) (.seq (.seq (.reg [⟨(some 13), 0, none, .bin .eql (.t 3) (.c (.int .i64 7))⟩,
  ⟨(some 12), 0, none, .mv (.t 13)⟩]) (.cond (.t 12) .skip (.reg [⟨(some 14), 0, none, .bin .eql (.t 3) (.c (.int .i64 8))⟩,
  ⟨(some 12), 0, none, .mv (.t 14)⟩]))) (.cond (.t 12) (.seq (.reg [⟨(some 2), 0, none, .mv (.c (.int .i64 3))⟩]) .ret) (.seq (.seq (.reg [⟨(some 16), 0, none, .bin .eql (.t 3) (.c (.int .i64 9))⟩,
  ⟨(some 15), 0, none, .mv (.t 16)⟩]) (.cond (.t 15) .skip (.seq (.reg [⟨(some 17), 0, none, .bin .eql (.t 3) (.c (.int .i64 10))⟩,
  ⟨(some 15), 0, none, .mv (.t 17)⟩]) (.cond (.t 15) .skip (.seq (.reg [⟨(some 18), 0, none, .bin .eql (.t 3) (.c (.int .i64 11))⟩,
  ⟨(some 15), 0, none, .mv (.t 18)⟩]) (.cond (.t 15) .skip (.seq (.reg [⟨(some 19), 0, none, .bin .eql (.t 3) (.c (.int .i64 12))⟩,
  ⟨(some 15), 0, none, .mv (.t 19)⟩]) (.cond (.t 15) .skip (.seq (.reg [⟨(some 20), 0, none, .bin .eql (.t 3) (.c (.int .i64 13))⟩,
  ⟨(some 15), 0, none, .mv (.t 20)⟩]) (.cond (.t 15) .skip (.seq (.reg [⟨(some 21), 0, none, .bin .eql (.t 3) (.c (.int .i64 14))⟩,
  ⟨(some 15), 0, none, .mv (.t 21)⟩]) (.cond (.t 15) .skip (.reg [⟨(some 22), 0, none, .bin .eql (.t 3) (.c (.int .i64 15))⟩,
  ⟨(some 15), 0, none, .mv (.t 22)⟩]))))))))))))) (.cond (.t 15) (.seq (.reg [⟨(some 23), 0, none, .mv (.t 0)⟩,
  ⟨(some 24), 0, none, .bin .sub (.t 23) (.c (.int .i64 5))⟩,
  ⟨(some 2), 0, none, .mv (.t 24)⟩]) .ret) .skip)))))))))) (.seq (.reg [⟨(some 2), 0, none, .mv (.c (.int .i64 0))⟩]) .ret)))
def rs28 : List (Nat × Option Nat × Mode) := [(2, none, .plain)]
theorem chk28 : chkC Try.prog Try.f28.ntmps b28 (Try.f28.body.getD .skip) = true := by decide +kernel
theorem top28 {args : List Arg} {out : Out} (ha : args.length.ble Try.f28.ntmps = true) (h8 : args.length.ble 8 = true) (mss : List (List (Option Nat))) (hb : backOK args out.back)
    (hw : rnC Try.prog b28 (topQ rs28 args mss out) (slotsOf (argsAV argBase args 0) 0) (argsOb argBase args 0)) : CW Try.prog 28 args out :=
  CW.of Try.func28 rs28 mss (by decide +kernel) (by decide +kernel) (by decide +kernel) ha h8 chk28 hb hw
/- endonym/canon.syllable -/
def b40 : IC := (.seq (.reg [⟨(some 2), 0, none, .mv (.c (.bool false))⟩]) (.seq (.reg [⟨(some 3), 0, none, .mv (.t 0)⟩,
  ⟨(some 4), 0, none, .bin .geq (.t 3) (.c (.int .i32 44032))⟩,
  ⟨(some 5), 0, none, .mv (.t 4)⟩,
  ⟨(some 6), 0, (some (5, true)), .mv (.t 0)⟩,
  ⟨(some 7), 0, (some (5, true)), .bin .leq (.t 6) (.c (.int .i32 55203))⟩,
  ⟨(some 8), 0, none, .pick (.t 5) (.t 7) (.c (.bool false))⟩,
  ⟨(some 2), 0, none, .mv (.t 8)⟩]) .ret))
def rs40 : List (Nat × Option Nat × Mode) := [(2, none, .plain)]
theorem chk40 : chkC Try.prog Try.f40.ntmps b40 (Try.f40.body.getD .skip) = true := by decide +kernel
theorem top40 {args : List Arg} {out : Out} (ha : args.length.ble Try.f40.ntmps = true) (h8 : args.length.ble 8 = true) (mss : List (List (Option Nat))) (hb : backOK args out.back)
    (hw : rnC Try.prog b40 (topQ rs40 args mss out) (slotsOf (argsAV argBase args 0) 0) (argsOb argBase args 0)) : CW Try.prog 40 args out :=
  CW.of Try.func40 rs40 mss (by decide +kernel) (by decide +kernel) (by decide +kernel) ha h8 chk40 hb hw
/- endonym/canon.parts -/
def b41 : IC := (.seq (.reg [⟨(some 2), 0, none, .mv (.c (.int .i32 0))⟩,
  ⟨(some 3), 0, none, .mv (.c (.int .i32 0))⟩]) (.seq (.reg [⟨(some 6), 0, none, .mv (.t 0)⟩,
  ⟨(some 7), 0, none, .bin .sub (.t 6) (.c (.int .i32 44032))⟩,
  ⟨(some 4), 0, none, .mv (.t 7)⟩]) (.seq (.reg [⟨(some 8), 0, none, .mv (.t 4)⟩,
  ⟨(some 9), 0, none, .bin .rem (.t 8) (.c (.int .i32 28))⟩,
  ⟨(some 5), 0, none, .mv (.t 9)⟩]) (.seq (.seq (.reg [⟨(some 10), 0, none, .mv (.t 5)⟩,
  ⟨(some 11), 0, none, .bin .gtr (.t 10) (.c (.int .i32 0))⟩]) (.cond (.t 11) (.seq (.reg [⟨(some 12), 0, none, .mv (.t 0)⟩,
  ⟨(some 13), 0, none, .mv (.t 5)⟩,
  ⟨(some 14), 0, none, .bin .sub (.t 12) (.t 13)⟩,
  ⟨(some 15), 0, none, .mv (.t 5)⟩,
  ⟨(some 16), 0, none, .bin .add (.c (.int .i32 4519)) (.t 15)⟩,
  ⟨(some 2), 0, none, .mv (.t 14)⟩,
  ⟨(some 3), 0, none, .mv (.t 16)⟩]) .ret) .skip)) (.seq (.reg [⟨(some 17), 0, none, .mv (.t 4)⟩,
  ⟨(some 18), 0, none, .bin .quo (.t 17) (.c (.int .i32 28))⟩,
  ⟨(some 4), 0, none, .mv (.t 18)⟩]) (.seq (.reg [⟨(some 19), 0, none, .mv (.t 4)⟩,
  ⟨(some 20), 0, none, .bin .quo (.t 19) (.c (.int .i32 21))⟩,
  ⟨(some 21), 0, none, .bin .add (.c (.int .i32 4352)) (.t 20)⟩,
  ⟨(some 22), 0, none, .mv (.t 4)⟩,
  ⟨(some 23), 0, none, .bin .rem (.t 22) (.c (.int .i32 21))⟩,
  ⟨(some 24), 0, none, .bin .add (.c (.int .i32 4449)) (.t 23)⟩,
  ⟨(some 2), 0, none, .mv (.t 21)⟩,
  ⟨(some 3), 0, none, .mv (.t 24)⟩]) .ret))))))
def rs41 : List (Nat × Option Nat × Mode) := [(2, none, .plain), (3, none, .plain)]
theorem chk41 : chkC Try.prog Try.f41.ntmps b41 (Try.f41.body.getD .skip) = true := by decide +kernel
theorem top41 {args : List Arg} {out : Out} (ha : args.length.ble Try.f41.ntmps = true) (h8 : args.length.ble 8 = true) (mss : List (List (Option Nat))) (hb : backOK args out.back)
    (hw : rnC Try.prog b41 (topQ rs41 args mss out) (slotsOf (argsAV argBase args 0) 0) (argsOb argBase args 0)) : CW Try.prog 41 args out :=
  CW.of Try.func41 rs41 mss (by decide +kernel) (by decide +kernel) (by decide +kernel) ha h8 chk41 hb hw
/- endonym/canon.isL -/
def b109 : IC := (.seq (.reg [⟨(some 2), 0, none, .mv (.c (.bool false))⟩]) (.seq (.reg [⟨(some 3), 0, none, .mv (.t 0)⟩,
  ⟨(some 4), 0, none, .bin .geq (.t 3) (.c (.int .i32 4352))⟩,
  ⟨(some 5), 0, none, .mv (.t 4)⟩,
  ⟨(some 6), 0, (some (5, true)), .mv (.t 0)⟩,
  ⟨(some 7), 0, (some (5, true)), .bin .lss (.t 6) (.c (.int .i32 4371))⟩,
  ⟨(some 8), 0, none, .pick (.t 5) (.t 7) (.c (.bool false))⟩,
  ⟨(some 2), 0, none, .mv (.t 8)⟩]) .ret))
def rs109 : List (Nat × Option Nat × Mode) := [(2, none, .plain)]
theorem chk109 : chkC Try.prog Try.f109.ntmps b109 (Try.f109.body.getD .skip) = true := by decide +kernel
theorem top109 {args : List Arg} {out : Out} (ha : args.length.ble Try.f109.ntmps = true) (h8 : args.length.ble 8 = true) (mss : List (List (Option Nat))) (hb : backOK args out.back)
    (hw : rnC Try.prog b109 (topQ rs109 args mss out) (slotsOf (argsAV argBase args 0) 0) (argsOb argBase args 0)) : CW Try.prog 109 args out :=
  CW.of Try.func109 rs109 mss (by decide +kernel) (by decide +kernel) (by decide +kernel) ha h8 chk109 hb hw
/- endonym/canon.isV -/
def b110 : IC := (.seq (.reg [⟨(some 2), 0, none, .mv (.c (.bool false))⟩]) (.seq (.reg [⟨(some 3), 0, none, .mv (.t 0)⟩,
  ⟨(some 4), 0, none, .bin .geq (.t 3) (.c (.int .i32 4449))⟩,
  ⟨(some 5), 0, none, .mv (.t 4)⟩,
  ⟨(some 6), 0, (some (5, true)), .mv (.t 0)⟩,
  ⟨(some 7), 0, (some (5, true)), .bin .lss (.t 6) (.c (.int .i32 4470))⟩,
  ⟨(some 8), 0, none, .pick (.t 5) (.t 7) (.c (.bool false))⟩,
  ⟨(some 2), 0, none, .mv (.t 8)⟩]) .ret))
def rs110 : List (Nat × Option Nat × Mode) := [(2, none, .plain)]
theorem chk110 : chkC Try.prog Try.f110.ntmps b110 (Try.f110.body.getD .skip) = true := by decide +kernel
theorem top110 {args : List Arg} {out : Out} (ha : args.length.ble Try.f110.ntmps = true) (h8 : args.length.ble 8 = true) (mss : List (List (Option Nat))) (hb : backOK args out.back)
    (hw : rnC Try.prog b110 (topQ rs110 args mss out) (slotsOf (argsAV argBase args 0) 0) (argsOb argBase args 0)) : CW Try.prog 110 args out :=
  CW.of Try.func110 rs110 mss (by decide +kernel) (by decide +kernel) (by decide +kernel) ha h8 chk110 hb hw
/- endonym/canon.isT -/
def b111 : IC := (.seq (.reg [⟨(some 2), 0, none, .mv (.c (.bool false))⟩]) (.seq (.reg [⟨(some 3), 0, none, .mv (.t 0)⟩,
  ⟨(some 4), 0, none, .bin .gtr (.t 3) (.c (.int .i32 4519))⟩,
  ⟨(some 5), 0, none, .mv (.t 4)⟩,
  ⟨(some 6), 0, (some (5, true)), .mv (.t 0)⟩,
  ⟨(some 7), 0, (some (5, true)), .bin .lss (.t 6) (.c (.int .i32 4547))⟩,
  ⟨(some 8), 0, none, .pick (.t 5) (.t 7) (.c (.bool false))⟩,
  ⟨(some 2), 0, none, .mv (.t 8)⟩]) .ret))
def rs111 : List (Nat × Option Nat × Mode) := [(2, none, .plain)]
theorem chk111 : chkC Try.prog Try.f111.ntmps b111 (Try.f111.body.getD .skip) = true := by decide +kernel
theorem top111 {args : List Arg} {out : Out} (ha : args.length.ble Try.f111.ntmps = true) (h8 : args.length.ble 8 = true) (mss : List (List (Option Nat))) (hb : backOK args out.back)
    (hw : rnC Try.prog b111 (topQ rs111 args mss out) (slotsOf (argsAV argBase args 0) 0) (argsOb argBase args 0)) : CW Try.prog 111 args out :=
  CW.of Try.func111 rs111 mss (by decide +kernel) (by decide +kernel) (by decide +kernel) ha h8 chk111 hb hw
/- endonym/scalar.Valid -/
def b131 : IC := (.seq (.reg [⟨(some 2), 0, none, .mv (.c (.bool false))⟩]) (.seq (.reg [⟨(some 3), 0, none, .mv (.t 0)⟩,
  ⟨(some 4), 0, none, .bin .geq (.t 3) (.c (.int .i32 0))⟩,
  ⟨(some 5), 0, none, .mv (.t 4)⟩,
  ⟨(some 6), 0, (some (5, true)), .mv (.t 0)⟩,
  ⟨(some 7), 0, (some (5, true)), .bin .leq (.t 6) (.c (.int .i32 1114111))⟩,
  ⟨(some 8), 0, none, .pick (.t 5) (.t 7) (.c (.bool false))⟩,
  ⟨(some 9), 0, none, .mv (.t 8)⟩,
  ⟨(some 10), 0, (some (9, true)), .mv (.t 0)⟩,
  ⟨(some 11), 0, (some (9, true)), .bin .lss (.t 10) (.c (.int .i32 55296))⟩,
  ⟨(some 12), 0, (some (9, true)), .mv (.t 11)⟩,
  ⟨(some 13), 0, (some (12, false)), .mv (.t 0)⟩,
  ⟨(some 14), 0, (some (12, false)), .bin .gtr (.t 13) (.c (.int .i32 57343))⟩,
  ⟨(some 15), 0, (some (9, true)), .pick (.t 12) (.c (.bool true)) (.t 14)⟩,
  ⟨(some 16), 0, none, .pick (.t 9) (.t 15) (.c (.bool false))⟩,
  ⟨(some 2), 0, none, .mv (.t 16)⟩]) .ret))
def rs131 : List (Nat × Option Nat × Mode) := [(2, none, .plain)]
theorem chk131 : chkC Try.prog Try.f131.ntmps b131 (Try.f131.body.getD .skip) = true := by decide +kernel
theorem top131 {args : List Arg} {out : Out} (ha : args.length.ble Try.f131.ntmps = true) (h8 : args.length.ble 8 = true) (mss : List (List (Option Nat))) (hb : backOK args out.back)
    (hw : rnC Try.prog b131 (topQ rs131 args mss out) (slotsOf (argsAV argBase args 0) 0) (argsOb argBase args 0)) : CW Try.prog 131 args out :=
  CW.of Try.func131 rs131 mss (by decide +kernel) (by decide +kernel) (by decide +kernel) ha h8 chk131 hb hw
/- endonym/table.one -/
def b120 : IC := (.seq (.reg [⟨(some 1), 1, none, .box (.t 0)⟩,
  ⟨(some 2), 0, none, .mv (.c (.bool false))⟩]) (.seq (.reg [⟨(some 3), 0, none, .fa (.t 1) 1⟩,
  ⟨(some 4), 0, none, .ld (.t 3) none⟩,
  ⟨(some 5), 0, none, .fa (.t 1) 2⟩,
  ⟨(some 6), 0, none, .ld (.t 5) none⟩,
  ⟨(some 7), 0, none, .bin .eql (.t 4) (.t 6)⟩,
  ⟨(some 8), 0, none, .mv (.t 7)⟩,
  ⟨(some 9), 0, (some (8, true)), .fa (.t 1) 1⟩,
  ⟨(some 10), 0, (some (8, true)), .ld (.t 9) none⟩,
  ⟨(some 11), 0, (some (8, true)), .conv .i32 (.t 10)⟩,
  ⟨(some 12), 2, (some (8, true)), .call (.c (.fn 131)) [((.t 11), .plain)]⟩,
  ⟨(some 13), 0, none, .pick (.t 8) (.t 12) (.c (.bool false))⟩,
  ⟨(some 2), 0, none, .mv (.t 13)⟩]) .ret))
def rs120 : List (Nat × Option Nat × Mode) := [(2, none, .plain)]
theorem chk120 : chkC Try.prog Try.f120.ntmps b120 (Try.f120.body.getD .skip) = true := by decide +kernel
theorem top120 {args : List Arg} {out : Out} (ha : args.length.ble Try.f120.ntmps = true) (h8 : args.length.ble 8 = true) (mss : List (List (Option Nat))) (hb : backOK args out.back)
    (hw : rnC Try.prog b120 (topQ rs120 args mss out) (slotsOf (argsAV argBase args 0) 0) (argsOb argBase args 0)) : CW Try.prog 120 args out :=
  CW.of Try.func120 rs120 mss (by decide +kernel) (by decide +kernel) (by decide +kernel) ha h8 chk120 hb hw
/- endonym/table.between -/
def b121 : IC := (.seq (.reg [⟨(some 3), 1, none, .box (.t 0)⟩,
  ⟨(some 6), 0, none, .mv (.c (.bool false))⟩]) (.seq (.reg [⟨(some 7), 0, none, .fa (.t 3) 3⟩,
  ⟨(some 8), 0, none, .ld (.t 7) none⟩,
  ⟨(some 9), 0, none, .mv (.t 1)⟩,
  ⟨(some 10), 0, none, .bin .geq (.t 8) (.t 9)⟩,
  ⟨(some 11), 0, none, .mv (.t 10)⟩,
  ⟨(some 12), 0, (some (11, true)), .fa (.t 3) 3⟩,
  ⟨(some 13), 0, (some (11, true)), .ld (.t 12) none⟩,
  ⟨(some 14), 0, (some (11, true)), .mv (.t 2)⟩,
  ⟨(some 15), 0, (some (11, true)), .bin .leq (.t 13) (.t 14)⟩,
  ⟨(some 16), 0, none, .pick (.t 11) (.t 15) (.c (.bool false))⟩,
  ⟨(some 6), 0, none, .mv (.t 16)⟩]) .ret))
def rs121 : List (Nat × Option Nat × Mode) := [(6, none, .plain)]
theorem chk121 : chkC Try.prog Try.f121.ntmps b121 (Try.f121.body.getD .skip) = true := by decide +kernel
theorem top121 {args : List Arg} {out : Out} (ha : args.length.ble Try.f121.ntmps = true) (h8 : args.length.ble 8 = true) (mss : List (List (Option Nat))) (hb : backOK args out.back)
    (hw : rnC Try.prog b121 (topQ rs121 args mss out) (slotsOf (argsAV argBase args 0) 0) (argsOb argBase args 0)) : CW Try.prog 121 args out :=
  CW.of Try.func121 rs121 mss (by decide +kernel) (by decide +kernel) (by decide +kernel) ha h8 chk121 hb hw
/- endonym/table.speaks -/
def b66 : IC := (.seq (.reg [⟨(some 2), 1, none, .box (.t 0)⟩,
  ⟨(some 4), 0, none, .mv (.c (.bool false))⟩]) (.seq (.seq (.reg [⟨(some 5), 0, none, .mv (.t 1)⟩,
  ⟨(some 6), 0, none, .fa (.t 2) 1⟩,
  ⟨(some 7), 0, none, .ld (.t 6) none⟩,
  ⟨(some 8), 0, none, .bin .lss (.t 5) (.t 7)⟩,
  ⟨(some 9), 0, none, .mv (.t 8)⟩,
  ⟨(some 10), 0, (some (9, false)), .mv (.t 1)⟩,
  ⟨(some 11), 0, (some (9, false)), .fa (.t 2) 2⟩,
  ⟨(some 12), 0, (some (9, false)), .ld (.t 11) none⟩,
  ⟨(some 13), 0, (some (9, false)), .bin .gtr (.t 10) (.t 12)⟩,
  ⟨(some 14), 0, none, .pick (.t 9) (.c (.bool true)) (.t 13)⟩,
  ⟨(some 15), 0, none, .mv (.t 14)⟩,
  ⟨(some 16), 0, (some (15, false)), .mv (.t 1)⟩,
  ⟨(some 17), 0, (some (15, false)), .bin .lss (.t 16) (.c (.int .i64 0))⟩,
  ⟨(some 18), 0, none, .pick (.t 15) (.c (.bool true)) (.t 17)⟩,
  ⟨(some 19), 0, none, .mv (.t 18)⟩,
  ⟨(some 20), 0, (some (19, false)), .mv (.t 1)⟩,
  ⟨(some 21), 0, (some (19, false)), .bin .gtr (.t 20) (.c (.int .i64 1114111))⟩,
  ⟨(some 22), 0, none, .pick (.t 19) (.c (.bool true)) (.t 21)⟩]) (.cond (.t 22) (.seq (.reg [⟨(some 4), 0, none, .mv (.c (.bool false))⟩]) .ret) .skip)) (.seq (.reg [⟨(some 23), 0, none, .fa (.t 2) 0⟩,
  ⟨(some 24), 0, none, .ld (.t 23) none⟩,
  ⟨(some 25), 0, none, .bin .neq (.t 24) (.c (.int .i64 4))⟩,
  ⟨(some 26), 0, none, .mv (.t 25)⟩,
  ⟨(some 27), 0, (some (26, false)), .fa (.t 2) 3⟩,
  ⟨(some 28), 0, (some (26, false)), .ld (.t 27) none⟩,
  ⟨(some 29), 0, (some (26, false)), .bin .gtr (.t 28) (.c (.int .i64 0))⟩,
  ⟨(some 30), 0, (some (26, false)), .mv (.t 29)⟩,
  ⟨(some 31), 0, (some (30, true)), .mv (.t 1)⟩,
  ⟨(some 32), 0, (some (30, true)), .conv .u64 (.t 31)⟩,
  ⟨(some 33), 0, (some (30, true)), .fa (.t 2) 1⟩,
  ⟨(some 34), 0, (some (30, true)), .ld (.t 33) none⟩,
  ⟨(some 35), 0, (some (30, true)), .conv .u64 (.t 34)⟩,
  ⟨(some 36), 0, (some (30, true)), .bin .sub (.t 32) (.t 35)⟩,
  ⟨(some 37), 0, (some (30, true)), .fa (.t 2) 3⟩,
  ⟨(some 38), 0, (some (30, true)), .ld (.t 37) none⟩,
  ⟨(some 39), 0, (some (30, true)), .conv .u64 (.t 38)⟩,
  ⟨(some 40), 0, (some (30, true)), .bin .rem (.t 36) (.t 39)⟩,
  ⟨(some 41), 0, (some (30, true)), .bin .eql (.t 40) (.c (.int .u64 0))⟩,
  ⟨(some 42), 0, (some (26, false)), .pick (.t 30) (.t 41) (.c (.bool false))⟩,
  ⟨(some 43), 0, none, .pick (.t 26) (.c (.bool true)) (.t 42)⟩,
  ⟨(some 4), 0, none, .mv (.t 43)⟩]) .ret)))
def rs66 : List (Nat × Option Nat × Mode) := [(4, none, .plain)]
theorem chk66 : chkC Try.prog Try.f66.ntmps b66 (Try.f66.body.getD .skip) = true := by decide +kernel
theorem top66 {args : List Arg} {out : Out} (ha : args.length.ble Try.f66.ntmps = true) (h8 : args.length.ble 8 = true) (mss : List (List (Option Nat))) (hb : backOK args out.back)
    (hw : rnC Try.prog b66 (topQ rs66 args mss out) (slotsOf (argsAV argBase args 0) 0) (argsOb argBase args 0)) : CW Try.prog 66 args out :=
  CW.of Try.func66 rs66 mss (by decide +kernel) (by decide +kernel) (by decide +kernel) ha h8 chk66 hb hw
/- endonym/table.Find -/
def l42_0 : IC := (.seq (.reg [⟨(some 18), 0, none, .bin .lss (.t 17) (.t 16)⟩]) (.seq (.cond (.t 18) .skip (.exit 0)) (.seq (.block 1 (.seq (.reg [⟨(some 19), 0, none, .mv (.t 17)⟩,
  ⟨(some 20), 0, none, .ia (.t 15) (.t 17) 8⟩,
  ⟨(some 21), 0, none, .ld (.t 20) (some 8)⟩,
  ⟨(some 8), 1, none, .alloc [(.int .i64 0), (.int .i64 0), (.int .i64 0), (.int .i64 0), .nilsl, (.str ⟨#[]⟩), (.str ⟨#[]⟩), (.flt 0)]⟩,
  ⟨(some 7), 0, none, .mv (.t 19)⟩,
  ⟨none, 0, none, .st (.t 8) (.t 21) (some 8)⟩]) (.seq (.reg [⟨(some 22), 0, none, .fa (.t 8) 0⟩,
  ⟨(some 23), 0, none, .ld (.t 22) none⟩,
  ⟨(some 24), 2, none, .call (.c (.fn 28)) [((.t 23), .plain)]⟩,
  ⟨(some 25), 0, none, .mv (.t 1)⟩,
  ⟨(some 26), 0, none, .bin .eql (.t 24) (.t 25)⟩,
  ⟨(some 27), 0, none, .mv (.t 26)⟩,
  ⟨(some 28), 0, (some (27, true)), .ld (.t 8) (some 8)⟩,
  ⟨(some 29), 0, (some (27, true)), .mv (.t 2)⟩,
  ⟨(some 30), 0, (some (27, true)), .conv .i64 (.t 29)⟩,
  ⟨(some 31), 12, (some (27, true)), .call (.c (.fn 66)) [((.t 28), .plain), ((.t 30), .plain)]⟩,
  ⟨(some 32), 0, none, .pick (.t 27) (.t 31) (.c (.bool false))⟩]) (.cond (.t 32) (.seq (.reg [⟨(some 33), 0, none, .mv (.t 7)⟩,
  ⟨(some 6), 0, none, .mv (.t 33)⟩]) .ret) .skip)))) (.reg [⟨(some 34), 0, none, .bin .add (.t 17) (.c (.int .i64 1))⟩,
  ⟨(some 17), 0, none, .mv (.t 34)⟩]))))
def n42_0 : Norm := ⟨[(1, .plain), (2, .plain), (15, .plain), (16, .plain), (17, .plain)], []⟩
def b42 : IC := (.seq (.reg [⟨(some 6), 0, none, .mv (.c (.int .i64 0))⟩]) (.seq (.seq (.reg [⟨(some 9), 0, none, .mv (.t 1)⟩,
  ⟨(some 10), 0, none, .bin .lss (.t 9) (.c (.int .i64 1))⟩,
  ⟨(some 11), 0, none, .mv (.t 10)⟩,
  ⟨(some 12), 0, (some (11, false)), .mv (.t 1)⟩,
  ⟨(some 13), 0, (some (11, false)), .bin .gtr (.t 12) (.c (.int .i64 9))⟩,
  ⟨(some 14), 0, none, .pick (.t 11) (.c (.bool true)) (.t 13)⟩]) (.cond (.t 14) (.seq (.reg [⟨(some 6), 0, none, .mv (.c (.int .i64 (-1)))⟩]) .ret) .skip)) (.seq (.seq (.reg [⟨(some 15), 0, none, .mv (.t 0)⟩,
  ⟨(some 16), 0, none, .len false (.t 15)⟩,
  ⟨(some 17), 0, none, .mv (.c (.int .i64 0))⟩]) (.block 0 (.loop n42_0 l42_0))) (.seq (.reg [⟨(some 6), 0, none, .mv (.c (.int .i64 (-1)))⟩]) .ret))))
def rs42 : List (Nat × Option Nat × Mode) := [(6, none, .plain)]
theorem chk42 : chkC Try.prog Try.f42.ntmps b42 (Try.f42.body.getD .skip) = true := by decide +kernel
theorem top42 {args : List Arg} {out : Out} (ha : args.length.ble Try.f42.ntmps = true) (h8 : args.length.ble 8 = true) (mss : List (List (Option Nat))) (hb : backOK args out.back)
    (hw : rnC Try.prog b42 (topQ rs42 args mss out) (slotsOf (argsAV argBase args 0) 0) (argsOb argBase args 0)) : CW Try.prog 42 args out :=
  CW.of Try.func42 rs42 mss (by decide +kernel) (by decide +kernel) (by decide +kernel) ha h8 chk42 hb hw

def syl (c : Int) : Bool := decide (44032 ≤ c) && decide (c ≤ 55203)
theorem w40 (c : Int) (Q : Ex → Slots → LH → Prop) (hQ : ∀ σ H, Slots.get σ 2 = .c (.bool (syl c)) → Q .ret σ H) : rnC Try.prog b40 Q [(0, .c (.int .i32 c))] [] := by
  unfold b40
  simp only [go_sem, ↓reduceIte, Nat.reduceEqDiff, Nat.reduceMul, Nat.reduceAdd, Nat.reduceDiv, Nat.reduceSub, Nat.reduceLT, Nat.reduceLeDiff, Int.reduceLE, Int.reduceLT, Int.reduceToNat, Int.reduceEq]
  exact hQ _ _ rfl
theorem cw40 (c : Int) : CW Try.prog 40 [.cv (.int .i32 c)] ⟨[.cv (.bool (syl c))], []⟩ := top40 rfl rfl [] trivial (w40 c _ fun σ H h => ret1 rfl h)

def famK (k : Int) : Int :=
  if k = 1 ∨ k = 2 ∨ k = 3 ∨ k = 4 ∨ k = 5 then 1 else if k = 6 then 2 else if k = 7 ∨ k = 8 then 3 else if 9 ≤ k ∧ k ≤ 15 then k - 5 else 0
theorem w28 (k : Int) (Q : Ex → Slots → LH → Prop) (hQ : ∀ σ H, Slots.get σ 2 = .c (.int .i64 (famK k)) → Q .ret σ H) : rnC Try.prog b28 Q [(0, .c (.int .i64 k))] [] := by
  unfold b28
  simp only [go_sem, ↓reduceIte, Nat.reduceEqDiff, Nat.reduceMul, Nat.reduceAdd, Nat.reduceDiv, Nat.reduceSub, Nat.reduceLT, Nat.reduceLeDiff, Int.reduceLE, Int.reduceLT, Int.reduceToNat, Int.reduceEq]
  repeat' (first | (refine And.intro (fun _ => ?_) ?_) | (intro _))
  all_goals (refine hQ _ _ ?_; simp only [go_sem, ↓reduceIte, Nat.reduceEqDiff, Nat.reduceMul, Nat.reduceAdd, Nat.reduceDiv, Nat.reduceSub, Nat.reduceLT, Nat.reduceLeDiff, Int.reduceLE, Int.reduceLT, Int.reduceToNat, Int.reduceEq]; congr 2; simp only [famK, wrap_i64]; (repeat' split) <;> omega)
theorem cw28 (k : Int) : CW Try.prog 28 [.cv (.int .i64 k)] ⟨[.cv (.int .i64 (famK k))], []⟩ := top28 rfl rfl [] trivial (w28 k _ fun σ H h => ret1 rfl h)

def valid (c : Int) : Bool := decide (0 ≤ c) && decide (c ≤ 1114111) && (decide (c < 55296) || decide (57343 < c))
theorem w131 (c : Int) (Q : Ex → Slots → LH → Prop) (hQ : ∀ σ H, Slots.get σ 2 = .c (.bool (valid c)) → Q .ret σ H) : rnC Try.prog b131 Q [(0, .c (.int .i32 c))] [] := by
  unfold b131
  simp only [go_sem, ↓reduceIte, Nat.reduceEqDiff, Nat.reduceMul, Nat.reduceAdd, Nat.reduceDiv, Nat.reduceSub, Nat.reduceLT, Nat.reduceLeDiff, Int.reduceLE, Int.reduceLT, Int.reduceToNat, Int.reduceEq]
  exact ⟨by omega, hQ _ _ rfl⟩
theorem cw131 (c : Int) : CW Try.prog 131 [.cv (.int .i32 c)] ⟨[.cv (.bool (valid c))], []⟩ := top131 rfl rfl [] trivial (w131 c _ fun σ H h => ret1 rfl h)

def isJL (c : Int) : Bool := decide (4352 ≤ c) && decide (c < 4371)
def isJV (c : Int) : Bool := decide (4449 ≤ c) && decide (c < 4470)
def isJT (c : Int) : Bool := decide (4519 < c) && decide (c < 4547)
theorem w109 (c : Int) (Q : Ex → Slots → LH → Prop) (hQ : ∀ σ H, Slots.get σ 2 = .c (.bool (isJL c)) → Q .ret σ H) : rnC Try.prog b109 Q [(0, .c (.int .i32 c))] [] := by
  unfold b109
  simp only [go_sem, ↓reduceIte, Nat.reduceEqDiff, Nat.reduceMul, Nat.reduceAdd, Nat.reduceDiv, Nat.reduceSub, Nat.reduceLT, Nat.reduceLeDiff, Int.reduceLE, Int.reduceLT, Int.reduceToNat, Int.reduceEq]
  exact hQ _ _ rfl
theorem cw109 (c : Int) : CW Try.prog 109 [.cv (.int .i32 c)] ⟨[.cv (.bool (isJL c))], []⟩ := top109 rfl rfl [] trivial (w109 c _ fun σ H h => ret1 rfl h)
theorem w110 (c : Int) (Q : Ex → Slots → LH → Prop) (hQ : ∀ σ H, Slots.get σ 2 = .c (.bool (isJV c)) → Q .ret σ H) : rnC Try.prog b110 Q [(0, .c (.int .i32 c))] [] := by
  unfold b110
  simp only [go_sem, ↓reduceIte, Nat.reduceEqDiff, Nat.reduceMul, Nat.reduceAdd, Nat.reduceDiv, Nat.reduceSub, Nat.reduceLT, Nat.reduceLeDiff, Int.reduceLE, Int.reduceLT, Int.reduceToNat, Int.reduceEq]
  exact hQ _ _ rfl
theorem cw110 (c : Int) : CW Try.prog 110 [.cv (.int .i32 c)] ⟨[.cv (.bool (isJV c))], []⟩ := top110 rfl rfl [] trivial (w110 c _ fun σ H h => ret1 rfl h)
theorem w111 (c : Int) (Q : Ex → Slots → LH → Prop) (hQ : ∀ σ H, Slots.get σ 2 = .c (.bool (isJT c)) → Q .ret σ H) : rnC Try.prog b111 Q [(0, .c (.int .i32 c))] [] := by
  unfold b111
  simp only [go_sem, ↓reduceIte, Nat.reduceEqDiff, Nat.reduceMul, Nat.reduceAdd, Nat.reduceDiv, Nat.reduceSub, Nat.reduceLT, Nat.reduceLeDiff, Int.reduceLE, Int.reduceLT, Int.reduceToNat, Int.reduceEq]
  exact hQ _ _ rfl
theorem cw111 (c : Int) : CW Try.prog 111 [.cv (.int .i32 c)] ⟨[.cv (.bool (isJT c))], []⟩ := top111 rfl rfl [] trivial (w111 c _ fun σ H h => ret1 rfl h)

theorem w121 (r : Rec) (lo hi : Int) (Q : Ex → Slots → LH → Prop) (hQ : ∀ σ H, Slots.get σ 6 = .c (.bool (decide (lo ≤ r.n) && decide (r.n ≤ hi))) → Q .ret σ H) : rnC Try.prog b121 Q [(0, .c r.cv), (1, .c (.int .i64 lo)), (2, .c (.int .i64 hi))] [] := by
  unfold b121
  simp only [go_sem, ↓reduceIte, Nat.reduceEqDiff, Nat.reduceMul, Nat.reduceAdd, Nat.reduceDiv, Nat.reduceSub, Nat.reduceLT, Nat.reduceLeDiff, Int.reduceLE, Int.reduceLT, Int.reduceToNat, Int.reduceEq]
  exact hQ _ _ rfl
theorem cw121 (r : Rec) (lo hi : Int) : CW Try.prog 121 [.cv r.cv, .cv (.int .i64 lo), .cv (.int .i64 hi)] ⟨[.cv (.bool (decide (lo ≤ r.n) && decide (r.n ≤ hi)))], []⟩ := top121 rfl rfl [] trivial (w121 r lo hi _ fun σ H h => ret1 rfl h)

/-- Lo is Hi, a scalar value. -/
def oneR (r : Rec) : Bool := decide (r.lo = r.hi) && valid (IntKind.i32.wrap r.lo)
theorem w120 (r : Rec) (Q : Ex → Slots → LH → Prop) (hQ : ∀ σ H, Slots.get σ 2 = .c (.bool (oneR r)) → Q .ret σ H) : rnC Try.prog b120 Q [(0, .c r.cv)] [] := by
  unfold b120
  simp only [go_sem, ↓reduceIte, Nat.reduceEqDiff, Nat.reduceMul, Nat.reduceAdd, Nat.reduceDiv, Nat.reduceSub, Nat.reduceLT, Nat.reduceLeDiff, Int.reduceLE, Int.reduceLT, Int.reduceToNat, Int.reduceEq]
  refine callK_1 _ (fun _ => cw131 _) (by simp only [go_sem, ↓reduceIte, Nat.reduceEqDiff, Nat.reduceMul, Nat.reduceAdd, Nat.reduceDiv, Nat.reduceSub, Nat.reduceLT, Nat.reduceLeDiff, Int.reduceLE, Int.reduceLT, Int.reduceToNat, Int.reduceEq]) rfl rfl ?_
  simp only [go_sem, ↓reduceIte, Nat.reduceEqDiff, Nat.reduceMul, Nat.reduceAdd, Nat.reduceDiv, Nat.reduceSub, Nat.reduceLT, Nat.reduceLeDiff, Int.reduceLE, Int.reduceLT, Int.reduceToNat, Int.reduceEq]
  exact hQ _ _ rfl
theorem cw120 (r : Rec) : CW Try.prog 120 [.cv r.cv] ⟨[.cv (.bool (oneR r))], []⟩ := top120 rfl rfl [] trivial (w120 r _ fun σ H h => ret1 rfl h)

/-- The two that a syllable opens to. -/
def partA (c : Int) : Int :=
  if 0 < (IntKind.i32.wrap (c - 44032)).tmod 28 then IntKind.i32.wrap (c - (IntKind.i32.wrap (c - 44032)).tmod 28)
  else IntKind.i32.wrap (4352 + IntKind.i32.wrap ((IntKind.i32.wrap ((IntKind.i32.wrap (c - 44032)).tdiv 28)).tdiv 21))
def partB (c : Int) : Int :=
  if 0 < (IntKind.i32.wrap (c - 44032)).tmod 28 then IntKind.i32.wrap (4519 + (IntKind.i32.wrap (c - 44032)).tmod 28)
  else IntKind.i32.wrap (4449 + (IntKind.i32.wrap ((IntKind.i32.wrap (c - 44032)).tdiv 28)).tmod 21)
theorem w41 (c : Int) (Q : Ex → Slots → LH → Prop) (hQ : ∀ σ H, Slots.get σ 2 = .c (.int .i32 (partA c)) → Slots.get σ 3 = .c (.int .i32 (partB c)) → Q .ret σ H) : rnC Try.prog b41 Q [(0, .c (.int .i32 c))] [] := by
  unfold b41
  simp only [go_sem, ↓reduceIte, Nat.reduceEqDiff, Nat.reduceMul, Nat.reduceAdd, Nat.reduceDiv, Nat.reduceSub, Nat.reduceLT, Nat.reduceLeDiff, Int.reduceLE, Int.reduceLT, Int.reduceToNat, Int.reduceEq]
  refine ⟨fun h => hQ _ _ ?_ ?_, fun h => hQ _ _ ?_ ?_⟩ <;> simp only [go_sem, ↓reduceIte, Nat.reduceEqDiff, Nat.reduceMul, Nat.reduceAdd, Nat.reduceDiv, Nat.reduceSub, Nat.reduceLT, Nat.reduceLeDiff, Int.reduceLE, Int.reduceLT, Int.reduceToNat, Int.reduceEq, partA, partB]
  · rw [if_pos h]
  · rw [if_pos h]
  · rw [if_neg (by omega)]
  · rw [if_neg (by omega)]
theorem cw41 (c : Int) : CW Try.prog 41 [.cv (.int .i32 c)] ⟨[.cv (.int .i32 (partA c)), .cv (.int .i32 (partB c))], []⟩ := top41 rfl rfl [] trivial (w41 c _ fun σ H h h' => ret2 rfl h h')

/-- Whole numbers as the machine has them. -/
def i64ok (n : Int) : Prop := -9223372036854775808 ≤ n ∧ n < 9223372036854775808
def i32ok (n : Int) : Prop := -2147483648 ≤ n ∧ n < 2147483648
theorem i32_64 {c : Int} (h : i32ok c) : IntKind.i64.wrap c = c := by unfold i32ok at h; rw [wrap_i64]; omega
theorem succ64 {k n : Nat} (h : k < n) (hn : n < 9223372036854775808) : IntKind.i64.wrap (k + 1) = ((k + 1 : Nat) : Int) := by rw [wrap_i64]; omega
def Rec.ok (r : Rec) : Prop := i64ok r.kind ∧ i64ok r.lo ∧ i64ok r.hi ∧ i64ok r.n ∧ ∀ c ∈ r.to, i32ok c
/-- A record speaks of a number. -/
def speaksR (r : Rec) (c : Int) : Bool :=
  if ((c < r.lo ∨ r.hi < c) ∨ c < 0) ∨ 1114111 < c then false
  else !decide (r.kind = 4) || (decide (0 < r.n) && (IntKind.u64.wrap (IntKind.u64.wrap c - IntKind.u64.wrap r.lo)).tmod (IntKind.u64.wrap r.n) == 0)
theorem w66 (r : Rec) (c : Int) (hr : r.ok) (Q : Ex → Slots → LH → Prop) (hQ : ∀ σ H, Slots.get σ 4 = .c (.bool (speaksR r c)) → Q .ret σ H) : rnC Try.prog b66 Q [(0, .c r.cv), (1, .c (.int .i64 c))] [] := by
  have hn := hr.2.2.2.1
  unfold i64ok at hn
  unfold b66
  simp only [go_sem, ↓reduceIte, Nat.reduceEqDiff, Nat.reduceMul, Nat.reduceAdd, Nat.reduceDiv, Nat.reduceSub, Nat.reduceLT, Nat.reduceLeDiff, Int.reduceLE, Int.reduceLT, Int.reduceToNat, Int.reduceEq]
  refine ⟨fun h => hQ _ _ ?_, fun h => ⟨?_, fun h1 h2 => ⟨h1, h2⟩, hQ _ _ ?_⟩⟩
  · simp only [go_sem, ↓reduceIte, Nat.reduceEqDiff, Nat.reduceMul, Nat.reduceAdd, Nat.reduceDiv, Nat.reduceSub, Nat.reduceLT, Nat.reduceLeDiff, Int.reduceLE, Int.reduceLT, Int.reduceToNat, Int.reduceEq, speaksR]
    rw [if_pos h]
  · rw [wrap_u64]; omega
  · simp only [go_sem, ↓reduceIte, Nat.reduceEqDiff, Nat.reduceMul, Nat.reduceAdd, Nat.reduceDiv, Nat.reduceSub, Nat.reduceLT, Nat.reduceLeDiff, Int.reduceLE, Int.reduceLT, Int.reduceToNat, Int.reduceEq, speaksR]
    rw [if_neg (by omega)]
theorem cw66 (r : Rec) (c : Int) (hr : r.ok) : CW Try.prog 66 [.cv r.cv, .cv (.int .i64 c)] ⟨[.cv (.bool (speaksR r c))], []⟩ := top66 rfl rfl [] trivial (w66 r c hr _ fun σ H h => ret1 rfl h)

/-- Find, from the number k on. -/
def findR (f c : Int) : List Rec → Int → Int
  | [], _ => -1
  | r :: l, k => if famK r.kind = f ∧ speaksR r c = true then k else findR f c l (k + 1)
theorem w42 (l : List Rec) (f c : Int) (hl : ∀ r ∈ l, r.ok) (hn : l.length < 9223372036854775808) (hc : i32ok c) (Q : Ex → Slots → LH → Prop)
    (hQ : ∀ σ H, Slots.get σ 6 = .c (.int .i64 (if f < 1 ∨ 9 < f then -1 else findR f c l 0)) → Q .ret σ H) : rnC Try.prog b42 Q [(0, .c (.sl 8 (recs l))), (1, .c (.int .i64 f)), (2, .c (.int .i32 c))] [] := by
  unfold b42
  simp only [go_sem, ↓reduceIte, Nat.reduceEqDiff, Nat.reduceMul, Nat.reduceAdd, Nat.reduceDiv, Nat.reduceSub, Nat.reduceLT, Nat.reduceLeDiff, Int.reduceLE, Int.reduceLT, Int.reduceToNat, Int.reduceEq]
  refine ⟨fun h => hQ _ _ ?_, fun h => ?_⟩
  · simp only [go_sem, ↓reduceIte, Nat.reduceEqDiff, Nat.reduceMul, Nat.reduceAdd, Nat.reduceDiv, Nat.reduceSub, Nat.reduceLT, Nat.reduceLeDiff, Int.reduceLE, Int.reduceLT, Int.reduceToNat, Int.reduceEq]
    rw [if_pos h]
  rw [if_neg (by omega)] at hQ
  refine loopR.by (α := Nat) (fun k => [(1, .c (.int .i64 f)), (2, .c (.int .i32 c)), (15, .c (.sl 8 (recs l))), (16, .c (.int .i64 l.length)), (17, .c (.int .i64 k))]) (fun _ => []) (fun k => l.length - k)
    (fun k => k ≤ l.length ∧ findR f c (l.drop k) k = findR f c l 0) 0 ⟨by omega, rfl⟩ ?_ ?_
  · intro Y hY
    simp only [go_sem, ↓reduceIte, Nat.reduceEqDiff, Nat.reduceMul, Nat.reduceAdd, Nat.reduceDiv, Nat.reduceSub, Nat.reduceLT, Nat.reduceLeDiff, Int.reduceLE, Int.reduceLT, Int.reduceToNat, Int.reduceEq, n42_0]
    exact hY
  · intro k hk Y hY
    unfold l42_0
    rcases Nat.lt_or_ge k l.length with hlt | hge
    · obtain ⟨r, e, hm, hd⟩ := recs_at hlt
      have hf := hk.2
      rw [hd, findR] at hf
      simp only [go_sem, ↓reduceIte, Nat.reduceEqDiff, Nat.reduceMul, Nat.reduceAdd, Nat.reduceDiv, Nat.reduceSub, Nat.reduceLT, Nat.reduceLeDiff, Int.reduceLE, Int.reduceLT, Int.reduceToNat, Int.reduceEq, n42_0, e]
      refine ⟨fun _ => ⟨by omega, ?_⟩, fun h => by omega⟩
      refine callK_1 _ (fun _ => cw28 _) (by simp only [go_sem, ↓reduceIte, Nat.reduceEqDiff, Nat.reduceMul, Nat.reduceAdd, Nat.reduceDiv, Nat.reduceSub, Nat.reduceLT, Nat.reduceLeDiff, Int.reduceLE, Int.reduceLT, Int.reduceToNat, Int.reduceEq]) rfl rfl ?_
      simp only [go_sem, ↓reduceIte, Nat.reduceEqDiff, Nat.reduceMul, Nat.reduceAdd, Nat.reduceDiv, Nat.reduceSub, Nat.reduceLT, Nat.reduceLeDiff, Int.reduceLE, Int.reduceLT, Int.reduceToNat, Int.reduceEq]
      refine callK_1 _ (fun _ => cw66 r _ (hl _ hm)) (by simp only [go_sem, ↓reduceIte, Nat.reduceEqDiff, Nat.reduceMul, Nat.reduceAdd, Nat.reduceDiv, Nat.reduceSub, Nat.reduceLT, Nat.reduceLeDiff, Int.reduceLE, Int.reduceLT, Int.reduceToNat, Int.reduceEq]) rfl rfl ?_
      simp only [go_sem, ↓reduceIte, Nat.reduceEqDiff, Nat.reduceMul, Nat.reduceAdd, Nat.reduceDiv, Nat.reduceSub, Nat.reduceLT, Nat.reduceLeDiff, Int.reduceLE, Int.reduceLT, Int.reduceToNat, Int.reduceEq]
      rw [i32_64 hc, succ64 hlt hn]
      refine ⟨fun h1 => hQ _ _ ?_, fun h1 => hY (k + 1) ⟨hlt, ?_⟩ (by omega)⟩
      · simp only [go_sem, ↓reduceIte, Nat.reduceEqDiff, Nat.reduceMul, Nat.reduceAdd, Nat.reduceDiv, Nat.reduceSub, Nat.reduceLT, Nat.reduceLeDiff, Int.reduceLE, Int.reduceLT, Int.reduceToNat, Int.reduceEq]
        rw [← hf, if_pos h1]
      · rw [← hf, if_neg (by rcases h1 with h1 | h1 <;> simp [h1])]
        simp
    · simp only [go_sem, ↓reduceIte, Nat.reduceEqDiff, Nat.reduceMul, Nat.reduceAdd, Nat.reduceDiv, Nat.reduceSub, Nat.reduceLT, Nat.reduceLeDiff, Int.reduceLE, Int.reduceLT, Int.reduceToNat, Int.reduceEq, n42_0]
      refine ⟨fun h => by omega, fun _ => hQ _ _ ?_⟩
      have : k = l.length := by omega
      subst this
      have hf := hk.2
      rw [List.drop_length, findR] at hf
      simp only [go_sem, ↓reduceIte, Nat.reduceEqDiff, Nat.reduceMul, Nat.reduceAdd, Nat.reduceDiv, Nat.reduceSub, Nat.reduceLT, Nat.reduceLeDiff, Int.reduceLE, Int.reduceLT, Int.reduceToNat, Int.reduceEq, ← hf]
/-- The place of the record of a family that speaks of a number. -/
def find (l : List Rec) (f c : Int) : Int := if f < 1 ∨ 9 < f then -1 else findR f c l 0
theorem cw42 (l : List Rec) (f c : Int) (hl : ∀ r ∈ l, r.ok) (hn : l.length < 9223372036854775808) (hc : i32ok c) :
    CW Try.prog 42 [.cv (.sl 8 (recs l)), .cv (.int .i64 f), .cv (.int .i32 c)] ⟨[.cv (.int .i64 (find l f c))], []⟩ := top42 rfl rfl [] trivial (w42 l f c hl hn hc _ fun σ H h => ret1 rfl h)
end Go.Proofs.Ytcpdnpaedkcebaa.V
