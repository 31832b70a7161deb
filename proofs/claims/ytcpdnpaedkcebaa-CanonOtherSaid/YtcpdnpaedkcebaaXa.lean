/- Contracts: what a record's fields may be; the reference's small functions. -/
import Derived.Test.YtcpdnpaedkcebaaWa
import Derived.Test.YtcpdnpaedkcebaaWd
namespace Go.Proofs.Ytcpdnpaedkcebaa.V
open Go Go.RowKit
set_option linter.unusedVariables false
set_option linter.unusedSimpArgs false
set_option maxRecDepth 100000
/- endonym/endonymref7.Syllable -/
def b43 : IC := (.seq (.reg [⟨(some 2), 0, none, .mv (.c (.bool false))⟩]) (.seq (.reg [⟨(some 3), 0, none, .mv (.t 0)⟩,
  ⟨(some 4), 0, none, .bin .geq (.t 3) (.c (.int .i32 44032))⟩,
  ⟨(some 5), 0, none, .mv (.t 4)⟩,
  ⟨(some 6), 0, (some (5, true)), .mv (.t 0)⟩,
  ⟨(some 7), 0, (some (5, true)), .bin .leq (.t 6) (.c (.int .i32 55203))⟩,
  ⟨(some 8), 0, none, .pick (.t 5) (.t 7) (.c (.bool false))⟩,
  ⟨(some 2), 0, none, .mv (.t 8)⟩]) .ret))
def rs43 : List (Nat × Option Nat × Mode) := [(2, none, .plain)]
theorem chk43 : chkC Try.prog Try.f43.ntmps b43 (Try.f43.body.getD .skip) = true := by decide +kernel
theorem top43 {args : List Arg} {out : Out} (ha : args.length.ble Try.f43.ntmps = true) (h8 : args.length.ble 8 = true) (mss : List (List (Option Nat))) (hb : backOK args out.back)
    (hw : rnC Try.prog b43 (topQ rs43 args mss out) (slotsOf (argsAV argBase args 0) 0) (argsOb argBase args 0)) : CW Try.prog 43 args out :=
  CW.of Try.func43 rs43 mss (by decide +kernel) (by decide +kernel) (by decide +kernel) ha h8 chk43 hb hw
/- endonym/endonymref7.jl -/
def b75 : IC := (.seq (.reg [⟨(some 2), 0, none, .mv (.c (.bool false))⟩]) (.seq (.reg [⟨(some 3), 0, none, .mv (.t 0)⟩,
  ⟨(some 4), 0, none, .bin .geq (.t 3) (.c (.int .i32 4352))⟩,
  ⟨(some 5), 0, none, .mv (.t 4)⟩,
  ⟨(some 6), 0, (some (5, true)), .mv (.t 0)⟩,
  ⟨(some 7), 0, (some (5, true)), .bin .leq (.t 6) (.c (.int .i32 4370))⟩,
  ⟨(some 8), 0, none, .pick (.t 5) (.t 7) (.c (.bool false))⟩,
  ⟨(some 2), 0, none, .mv (.t 8)⟩]) .ret))
def rs75 : List (Nat × Option Nat × Mode) := [(2, none, .plain)]
theorem chk75 : chkC Try.prog Try.f75.ntmps b75 (Try.f75.body.getD .skip) = true := by decide +kernel
theorem top75 {args : List Arg} {out : Out} (ha : args.length.ble Try.f75.ntmps = true) (h8 : args.length.ble 8 = true) (mss : List (List (Option Nat))) (hb : backOK args out.back)
    (hw : rnC Try.prog b75 (topQ rs75 args mss out) (slotsOf (argsAV argBase args 0) 0) (argsOb argBase args 0)) : CW Try.prog 75 args out :=
  CW.of Try.func75 rs75 mss (by decide +kernel) (by decide +kernel) (by decide +kernel) ha h8 chk75 hb hw
/- endonym/endonymref7.jv -/
def b76 : IC := (.seq (.reg [⟨(some 2), 0, none, .mv (.c (.bool false))⟩]) (.seq (.reg [⟨(some 3), 0, none, .mv (.t 0)⟩,
  ⟨(some 4), 0, none, .bin .geq (.t 3) (.c (.int .i32 4449))⟩,
  ⟨(some 5), 0, none, .mv (.t 4)⟩,
  ⟨(some 6), 0, (some (5, true)), .mv (.t 0)⟩,
  ⟨(some 7), 0, (some (5, true)), .bin .leq (.t 6) (.c (.int .i32 4469))⟩,
  ⟨(some 8), 0, none, .pick (.t 5) (.t 7) (.c (.bool false))⟩,
  ⟨(some 2), 0, none, .mv (.t 8)⟩]) .ret))
def rs76 : List (Nat × Option Nat × Mode) := [(2, none, .plain)]
theorem chk76 : chkC Try.prog Try.f76.ntmps b76 (Try.f76.body.getD .skip) = true := by decide +kernel
theorem top76 {args : List Arg} {out : Out} (ha : args.length.ble Try.f76.ntmps = true) (h8 : args.length.ble 8 = true) (mss : List (List (Option Nat))) (hb : backOK args out.back)
    (hw : rnC Try.prog b76 (topQ rs76 args mss out) (slotsOf (argsAV argBase args 0) 0) (argsOb argBase args 0)) : CW Try.prog 76 args out :=
  CW.of Try.func76 rs76 mss (by decide +kernel) (by decide +kernel) (by decide +kernel) ha h8 chk76 hb hw
/- endonym/endonymref7.jt -/
def b77 : IC := (.seq (.reg [⟨(some 2), 0, none, .mv (.c (.bool false))⟩]) (.seq (.reg [⟨(some 3), 0, none, .mv (.t 0)⟩,
  ⟨(some 4), 0, none, .bin .geq (.t 3) (.c (.int .i32 4520))⟩,
  ⟨(some 5), 0, none, .mv (.t 4)⟩,
  ⟨(some 6), 0, (some (5, true)), .mv (.t 0)⟩,
  ⟨(some 7), 0, (some (5, true)), .bin .leq (.t 6) (.c (.int .i32 4546))⟩,
  ⟨(some 8), 0, none, .pick (.t 5) (.t 7) (.c (.bool false))⟩,
  ⟨(some 2), 0, none, .mv (.t 8)⟩]) .ret))
def rs77 : List (Nat × Option Nat × Mode) := [(2, none, .plain)]
theorem chk77 : chkC Try.prog Try.f77.ntmps b77 (Try.f77.body.getD .skip) = true := by decide +kernel
theorem top77 {args : List Arg} {out : Out} (ha : args.length.ble Try.f77.ntmps = true) (h8 : args.length.ble 8 = true) (mss : List (List (Option Nat))) (hb : backOK args out.back)
    (hw : rnC Try.prog b77 (topQ rs77 args mss out) (slotsOf (argsAV argBase args 0) 0) (argsOb argBase args 0)) : CW Try.prog 77 args out :=
  CW.of Try.func77 rs77 mss (by decide +kernel) (by decide +kernel) (by decide +kernel) ha h8 chk77 hb hw
/- endonym/endonymref7.covers -/
def b74 : IC := (.seq (.reg [⟨(some 3), 1, none, .box (.t 0)⟩,
  ⟨(some 6), 0, none, .mv (.c (.bool false))⟩]) (.seq (.reg [⟨(some 7), 0, none, .fa (.t 3) 1⟩,
  ⟨(some 8), 0, none, .ld (.t 7) none⟩,
  ⟨(some 9), 0, none, .mv (.t 2)⟩,
  ⟨(some 10), 0, none, .bin .leq (.t 8) (.t 9)⟩,
  ⟨(some 11), 0, none, .mv (.t 10)⟩,
  ⟨(some 12), 0, (some (11, true)), .fa (.t 3) 2⟩,
  ⟨(some 13), 0, (some (11, true)), .ld (.t 12) none⟩,
  ⟨(some 14), 0, (some (11, true)), .mv (.t 1)⟩,
  ⟨(some 15), 0, (some (11, true)), .bin .geq (.t 13) (.t 14)⟩,
  ⟨(some 16), 0, none, .pick (.t 11) (.t 15) (.c (.bool false))⟩,
  ⟨(some 6), 0, none, .mv (.t 16)⟩]) .ret))
def rs74 : List (Nat × Option Nat × Mode) := [(6, none, .plain)]
theorem chk74 : chkC Try.prog Try.f74.ntmps b74 (Try.f74.body.getD .skip) = true := by decide +kernel
theorem top74 {args : List Arg} {out : Out} (ha : args.length.ble Try.f74.ntmps = true) (h8 : args.length.ble 8 = true) (mss : List (List (Option Nat))) (hb : backOK args out.back)
    (hw : rnC Try.prog b74 (topQ rs74 args mss out) (slotsOf (argsAV argBase args 0) 0) (argsOb argBase args 0)) : CW Try.prog 74 args out :=
  CW.of Try.func74 rs74 mss (by decide +kernel) (by decide +kernel) (by decide +kernel) ha h8 chk74 hb hw
/- endonym/endonymref6.step -/
def b107 : IC := (.seq (.reg [⟨(some 1), 1, none, .box (.t 0)⟩,
  ⟨(some 2), 0, none, .mv (.c (.int .i64 0))⟩]) (.seq (.seq (.reg [⟨(some 3), 0, none, .fa (.t 1) 0⟩,
  ⟨(some 4), 0, none, .ld (.t 3) none⟩,
  ⟨(some 5), 0, none, .bin .eql (.t 4) (.c (.int .i64 4))⟩]) (.cond (.t 5) (.seq (.reg [⟨(some 6), 0, none, .fa (.t 1) 3⟩,
  ⟨(some 7), 0, none, .ld (.t 6) none⟩,
  ⟨(some 8), 0, none, .mx (.t 7) (.c (.int .i64 0))⟩,
  ⟨(some 2), 0, none, .mv (.t 8)⟩]) .ret) .skip)) (.seq (.reg [⟨(some 2), 0, none, .mv (.c (.int .i64 1))⟩]) .ret)))
def rs107 : List (Nat × Option Nat × Mode) := [(2, none, .plain)]
theorem chk107 : chkC Try.prog Try.f107.ntmps b107 (Try.f107.body.getD .skip) = true := by decide +kernel
theorem top107 {args : List Arg} {out : Out} (ha : args.length.ble Try.f107.ntmps = true) (h8 : args.length.ble 8 = true) (mss : List (List (Option Nat))) (hb : backOK args out.back)
    (hw : rnC Try.prog b107 (topQ rs107 args mss out) (slotsOf (argsAV argBase args 0) 0) (argsOb argBase args 0)) : CW Try.prog 107 args out :=
  CW.of Try.func107 rs107 mss (by decide +kernel) (by decide +kernel) (by decide +kernel) ha h8 chk107 hb hw
/- endonym/weigh.rank -/
def b137 : IC := (.seq (.reg [⟨(some 2), 0, none, .mv (.c (.int .i64 0))⟩]) (.seq (.seq (.reg [⟨(some 4), 0, none, .mv (.t 0)⟩,
  ⟨(some 5), 0, none, .mv (.t 0)⟩,
  ⟨(some 6), 0, none, .bin .neq (.t 4) (.t 5)⟩]) (.cond (.t 6) (.seq (.reg [⟨(some 2), 0, none, .mv (.c (.int .i64 9223372036854775807))⟩]) .ret) .skip)) (.seq (.reg [⟨(some 7), 0, none, .mv (.t 0)⟩,
  ⟨(some 8), 1, none, .call (.c (.fn 69)) [((.t 7), .plain)]⟩,
  ⟨(some 9), 0, none, .conv .i64 (.t 8)⟩,
  ⟨(some 3), 0, none, .mv (.t 9)⟩]) (.seq (.seq (.reg [⟨(some 10), 0, none, .mv (.t 3)⟩,
  ⟨(some 11), 0, none, .bin .lss (.t 10) (.c (.int .i64 0))⟩]) (.cond (.t 11) (.seq (.reg [⟨(some 12), 0, none, .mv (.t 3)⟩,
  ⟨(some 13), 0, none, .bin .sub (.c (.int .i64 (-9223372036854775808))) (.t 12)⟩,
  ⟨(some 14), 0, none, .bin .sub (.t 13) (.c (.int .i64 1))⟩,
  ⟨(some 2), 0, none, .mv (.t 14)⟩]) .ret) .skip)) (.seq (.reg [⟨(some 15), 0, none, .mv (.t 3)⟩,
  ⟨(some 2), 0, none, .mv (.t 15)⟩]) .ret)))))
def rs137 : List (Nat × Option Nat × Mode) := [(2, none, .plain)]
theorem chk137 : chkC Try.prog Try.f137.ntmps b137 (Try.f137.body.getD .skip) = true := by decide +kernel
theorem top137 {args : List Arg} {out : Out} (ha : args.length.ble Try.f137.ntmps = true) (h8 : args.length.ble 8 = true) (mss : List (List (Option Nat))) (hb : backOK args out.back)
    (hw : rnC Try.prog b137 (topQ rs137 args mss out) (slotsOf (argsAV argBase args 0) 0) (argsOb argBase args 0)) : CW Try.prog 137 args out :=
  CW.of Try.func137 rs137 mss (by decide +kernel) (by decide +kernel) (by decide +kernel) ha h8 chk137 hb hw
/- endonym/weigh.Order -/
def b132 : IC := (.seq (.reg [⟨(some 4), 0, none, .mv (.c (.int .i64 0))⟩]) (.seq (.reg [⟨(some 7), 0, none, .mv (.t 0)⟩,
  ⟨(some 8), 1, none, .call (.c (.fn 137)) [((.t 7), .plain)]⟩,
  ⟨(some 9), 0, none, .mv (.t 1)⟩,
  ⟨(some 10), 11, none, .call (.c (.fn 137)) [((.t 9), .plain)]⟩,
  ⟨(some 5), 0, none, .mv (.t 8)⟩,
  ⟨(some 6), 0, none, .mv (.t 10)⟩]) (.seq (.block 0 (.seq (.reg [⟨(some 12), 0, none, .mv (.t 5)⟩,
  ⟨(some 13), 0, none, .mv (.t 6)⟩,
  ⟨(some 14), 0, none, .bin .lss (.t 12) (.t 13)⟩,
  ⟨(some 11), 0, none, .mv (.t 14)⟩]) (.cond (.t 11) (.seq (.reg [⟨(some 4), 0, none, .mv (.c (.int .i64 (-1)))⟩]) .ret) (.seq (.reg [⟨(some 16), 0, none, .mv (.t 5)⟩,
  ⟨(some 17), 0, none, .mv (.t 6)⟩,
  ⟨(some 18), 0, none, .bin .gtr (.t 16) (.t 17)⟩,
  ⟨(some 15), 0, none, .mv (.t 18)⟩]) (.cond (.t 15) (.seq (.reg [⟨(some 4), 0, none, .mv (.c (.int .i64 1))⟩]) .ret) .skip))))) (.seq (.reg [⟨(some 4), 0, none, .mv (.c (.int .i64 0))⟩]) .ret))))
def rs132 : List (Nat × Option Nat × Mode) := [(4, none, .plain)]
theorem chk132 : chkC Try.prog Try.f132.ntmps b132 (Try.f132.body.getD .skip) = true := by decide +kernel
theorem top132 {args : List Arg} {out : Out} (ha : args.length.ble Try.f132.ntmps = true) (h8 : args.length.ble 8 = true) (mss : List (List (Option Nat))) (hb : backOK args out.back)
    (hw : rnC Try.prog b132 (topQ rs132 args mss out) (slotsOf (argsAV argBase args 0) 0) (argsOb argBase args 0)) : CW Try.prog 132 args out :=
  CW.of Try.func132 rs132 mss (by decide +kernel) (by decide +kernel) (by decide +kernel) ha h8 chk132 hb hw
/- endonym/endonymref3.Valid -/
def b115 : IC := (.seq (.reg [⟨(some 2), 0, none, .mv (.c (.bool false))⟩]) (.seq (.reg [⟨(some 3), 0, none, .mv (.t 0)⟩,
  ⟨(some 4), 0, none, .bin .geq (.t 3) (.c (.int .i32 0))⟩,
  ⟨(some 5), 0, none, .mv (.t 4)⟩,
  ⟨(some 6), 0, (some (5, true)), .mv (.t 0)⟩,
  ⟨(some 7), 0, (some (5, true)), .bin .leq (.t 6) (.c (.int .i32 55295))⟩,
  ⟨(some 8), 0, none, .pick (.t 5) (.t 7) (.c (.bool false))⟩,
  ⟨(some 9), 0, none, .mv (.t 8)⟩,
  ⟨(some 10), 0, (some (9, false)), .mv (.t 0)⟩,
  ⟨(some 11), 0, (some (9, false)), .bin .geq (.t 10) (.c (.int .i32 57344))⟩,
  ⟨(some 12), 0, (some (9, false)), .mv (.t 11)⟩,
  ⟨(some 13), 0, (some (12, true)), .mv (.t 0)⟩,
  ⟨(some 14), 0, (some (12, true)), .bin .leq (.t 13) (.c (.int .i32 1114111))⟩,
  ⟨(some 15), 0, (some (9, false)), .pick (.t 12) (.t 14) (.c (.bool false))⟩,
  ⟨(some 16), 0, none, .pick (.t 9) (.c (.bool true)) (.t 15)⟩,
  ⟨(some 2), 0, none, .mv (.t 16)⟩]) .ret))
def rs115 : List (Nat × Option Nat × Mode) := [(2, none, .plain)]
theorem chk115 : chkC Try.prog Try.f115.ntmps b115 (Try.f115.body.getD .skip) = true := by decide +kernel
theorem top115 {args : List Arg} {out : Out} (ha : args.length.ble Try.f115.ntmps = true) (h8 : args.length.ble 8 = true) (mss : List (List (Option Nat))) (hb : backOK args out.back)
    (hw : rnC Try.prog b115 (topQ rs115 args mss out) (slotsOf (argsAV argBase args 0) 0) (argsOb argBase args 0)) : CW Try.prog 115 args out :=
  CW.of Try.func115 rs115 mss (by decide +kernel) (by decide +kernel) (by decide +kernel) ha h8 chk115 hb hw
/- endonym/endonymref6.Family -/
def b67 : IC := (.seq (.reg [⟨(some 2), 0, none, .mv (.c (.int .i64 0))⟩]) (.seq (.seq (.reg [⟨(some 3), 0, none, .mv (.t 0)⟩,
  ⟨(some 4), 0, none, .bin .lss (.t 3) (.c (.int .i64 1))⟩,
  ⟨(some 5), 0, none, .mv (.t 4)⟩,
  ⟨(some 6), 0, (some (5, false)), .mv (.t 0)⟩,
  ⟨(some 7), 0, (some (5, false)), .bin .gtr (.t 6) (.c (.int .i64 15))⟩,
  ⟨(some 8), 0, none, .pick (.t 5) (.c (.bool true)) (.t 7)⟩]) (.cond (.t 8) (.seq (.reg [⟨(some 2), 0, none, .mv (.c (.int .i64 0))⟩]) .ret) .skip)) (.seq (.reg [⟨(some 9), 0, none, .bld [(.int .i64 0), (.int .i64 0), (.int .i64 0), (.int .i64 0), (.int .i64 0), (.int .i64 0), (.int .i64 0), (.int .i64 0), (.int .i64 0), (.int .i64 0), (.int .i64 0), (.int .i64 0), (.int .i64 0), (.int .i64 0), (.int .i64 0), (.int .i64 0)] [(0, (.c (.int .i64 0))), (1, (.c (.int .i64 1))), (2, (.c (.int .i64 1))), (3, (.c (.int .i64 1))), (4, (.c (.int .i64 1))), (5, (.c (.int .i64 1))), (6, (.c (.int .i64 2))), (7, (.c (.int .i64 3))), (8, (.c (.int .i64 3))), (9, (.c (.int .i64 4))), (10, (.c (.int .i64 5))), (11, (.c (.int .i64 6))), (12, (.c (.int .i64 7))), (13, (.c (.int .i64 8))), (14, (.c (.int .i64 9))), (15, (.c (.int .i64 10)))]⟩,
  ⟨(some 10), 0, none, .mv (.t 0)⟩,
  ⟨(some 11), 0, none, .aidx 16 (.t 9) (.t 10)⟩,
  ⟨(some 2), 0, none, .mv (.t 11)⟩]) .ret)))
def rs67 : List (Nat × Option Nat × Mode) := [(2, none, .plain)]
theorem chk67 : chkC Try.prog Try.f67.ntmps b67 (Try.f67.body.getD .skip) = true := by decide +kernel
theorem top67 {args : List Arg} {out : Out} (ha : args.length.ble Try.f67.ntmps = true) (h8 : args.length.ble 8 = true) (mss : List (List (Option Nat))) (hb : backOK args out.back)
    (hw : rnC Try.prog b67 (topQ rs67 args mss out) (slotsOf (argsAV argBase args 0) 0) (argsOb argBase args 0)) : CW Try.prog 67 args out :=
  CW.of Try.func67 rs67 mss (by decide +kernel) (by decide +kernel) (by decide +kernel) ha h8 chk67 hb hw
/- endonym/endonymref6.bare -/
def b112 : IC := (.seq (.reg [⟨(some 6), 1, none, .box (.t 0)⟩,
  ⟨(some 12), 0, none, .mv (.c (.bool false))⟩]) (.seq (.reg [⟨(some 13), 0, none, .mv (.t 1)⟩,
  ⟨(some 14), 0, none, .mv (.t 13)⟩,
  ⟨(some 15), 0, (some (14, false)), .fa (.t 6) 3⟩,
  ⟨(some 16), 0, (some (14, false)), .ld (.t 15) none⟩,
  ⟨(some 17), 0, (some (14, false)), .bin .eql (.t 16) (.c (.int .i64 0))⟩,
  ⟨(some 18), 0, none, .pick (.t 14) (.c (.bool true)) (.t 17)⟩,
  ⟨(some 19), 0, none, .mv (.t 18)⟩,
  ⟨(some 20), 0, (some (19, true)), .mv (.t 2)⟩,
  ⟨(some 21), 0, (some (19, true)), .mv (.t 20)⟩,
  ⟨(some 22), 0, (some (21, false)), .fa (.t 6) 4⟩,
  ⟨(some 23), 0, (some (21, false)), .ld (.t 22) none⟩,
  ⟨(some 24), 0, (some (21, false)), .len false (.t 23)⟩,
  ⟨(some 25), 0, (some (21, false)), .bin .eql (.t 24) (.c (.int .i64 0))⟩,
  ⟨(some 26), 0, (some (19, true)), .pick (.t 21) (.c (.bool true)) (.t 25)⟩,
  ⟨(some 27), 0, none, .pick (.t 19) (.t 26) (.c (.bool false))⟩,
  ⟨(some 28), 0, none, .mv (.t 27)⟩,
  ⟨(some 29), 0, (some (28, true)), .mv (.t 3)⟩,
  ⟨(some 30), 0, (some (28, true)), .mv (.t 29)⟩,
  ⟨(some 31), 0, (some (30, false)), .fa (.t 6) 5⟩,
  ⟨(some 32), 0, (some (30, false)), .ld (.t 31) none⟩,
  ⟨(some 33), 0, (some (30, false)), .bin .eql (.t 32) (.c (.str ⟨#[]⟩))⟩,
  ⟨(some 34), 0, (some (28, true)), .pick (.t 30) (.c (.bool true)) (.t 33)⟩,
  ⟨(some 35), 0, none, .pick (.t 28) (.t 34) (.c (.bool false))⟩,
  ⟨(some 36), 0, none, .mv (.t 35)⟩,
  ⟨(some 37), 0, (some (36, true)), .mv (.t 4)⟩,
  ⟨(some 38), 0, (some (36, true)), .mv (.t 37)⟩,
  ⟨(some 39), 0, (some (38, false)), .fa (.t 6) 6⟩,
  ⟨(some 40), 0, (some (38, false)), .ld (.t 39) none⟩,
  ⟨(some 41), 0, (some (38, false)), .bin .eql (.t 40) (.c (.str ⟨#[]⟩))⟩,
  ⟨(some 42), 0, (some (36, true)), .pick (.t 38) (.c (.bool true)) (.t 41)⟩,
  ⟨(some 43), 0, none, .pick (.t 36) (.t 42) (.c (.bool false))⟩,
  ⟨(some 44), 0, none, .mv (.t 43)⟩,
  ⟨(some 45), 0, (some (44, true)), .mv (.t 5)⟩,
  ⟨(some 46), 0, (some (44, true)), .mv (.t 45)⟩,
  ⟨(some 47), 0, (some (46, false)), .fa (.t 6) 7⟩,
  ⟨(some 48), 0, (some (46, false)), .ld (.t 47) none⟩,
  ⟨(some 49), 2, (some (46, false)), .call (.c (.fn 69)) [((.t 48), .plain)]⟩,
  ⟨(some 50), 0, (some (46, false)), .bin .eql (.t 49) (.c (.int .u64 0))⟩,
  ⟨(some 51), 0, (some (44, true)), .pick (.t 46) (.c (.bool true)) (.t 50)⟩,
  ⟨(some 52), 0, none, .pick (.t 44) (.t 51) (.c (.bool false))⟩,
  ⟨(some 12), 0, none, .mv (.t 52)⟩]) .ret))
def rs112 : List (Nat × Option Nat × Mode) := [(12, none, .plain)]
theorem chk112 : chkC Try.prog Try.f112.ntmps b112 (Try.f112.body.getD .skip) = true := by decide +kernel
theorem top112 {args : List Arg} {out : Out} (ha : args.length.ble Try.f112.ntmps = true) (h8 : args.length.ble 8 = true) (mss : List (List (Option Nat))) (hb : backOK args out.back)
    (hw : rnC Try.prog b112 (topQ rs112 args mss out) (slotsOf (argsAV argBase args 0) 0) (argsOb argBase args 0)) : CW Try.prog 112 args out :=
  CW.of Try.func112 rs112 mss (by decide +kernel) (by decide +kernel) (by decide +kernel) ha h8 chk112 hb hw
/- endonym/endonymref6.weight -/
def b114 : IC := (.seq (.reg [⟨(some 2), 0, none, .mv (.c (.bool false))⟩]) (.seq (.reg [⟨(some 4), 0, none, .mv (.t 0)⟩,
  ⟨(some 5), 1, none, .call (.c (.fn 69)) [((.t 4), .plain)]⟩,
  ⟨(some 3), 0, none, .mv (.t 5)⟩]) (.seq (.reg [⟨(some 6), 0, none, .mv (.t 3)⟩,
  ⟨(some 7), 0, none, .bin .leq (.t 6) (.c (.int .u64 9218868437227405312))⟩,
  ⟨(some 2), 0, none, .mv (.t 7)⟩]) .ret)))
def rs114 : List (Nat × Option Nat × Mode) := [(2, none, .plain)]
theorem chk114 : chkC Try.prog Try.f114.ntmps b114 (Try.f114.body.getD .skip) = true := by decide +kernel
theorem top114 {args : List Arg} {out : Out} (ha : args.length.ble Try.f114.ntmps = true) (h8 : args.length.ble 8 = true) (mss : List (List (Option Nat))) (hb : backOK args out.back)
    (hw : rnC Try.prog b114 (topQ rs114 args mss out) (slotsOf (argsAV argBase args 0) 0) (argsOb argBase args 0)) : CW Try.prog 114 args out :=
  CW.of Try.func114 rs114 mss (by decide +kernel) (by decide +kernel) (by decide +kernel) ha h8 chk114 hb hw
/- endonym/endonymref5.Name -/
def l113_0 : IC := (.seq (.seq (.reg [⟨(some 17), 0, none, .mv (.t 3)⟩,
  ⟨(some 18), 0, none, .bin .lss (.t 17) (.c (.int .i64 4))⟩]) (.cond (.t 18) .skip (.exit 0))) (.seq (.block 1 (.seq (.reg [⟨(some 21), 0, none, .mv (.t 0)⟩,
  ⟨(some 22), 0, none, .mv (.t 3)⟩,
  ⟨(some 23), 0, none, .sidx (.t 21) (.t 22)⟩,
  ⟨(some 24), 0, none, .bin .lss (.t 23) (.c (.int .u8 97))⟩,
  ⟨(some 25), 0, none, .mv (.t 24)⟩,
  ⟨(some 26), 0, (some (25, false)), .mv (.t 0)⟩,
  ⟨(some 27), 0, (some (25, false)), .mv (.t 3)⟩,
  ⟨(some 28), 0, (some (25, false)), .sidx (.t 26) (.t 27)⟩,
  ⟨(some 29), 0, (some (25, false)), .bin .gtr (.t 28) (.c (.int .u8 122))⟩,
  ⟨(some 30), 0, none, .pick (.t 25) (.c (.bool true)) (.t 29)⟩]) (.cond (.t 30) (.seq (.reg [⟨(some 2), 0, none, .mv (.c (.bool false))⟩]) .ret) .skip))) (.reg [⟨(some 19), 0, none, .mv (.t 3)⟩,
  ⟨(some 20), 0, none, .bin .add (.t 19) (.c (.int .i64 1))⟩,
  ⟨(some 3), 0, none, .mv (.t 20)⟩])))
def n113_0 : Norm := ⟨[(0, .plain), (3, .plain)], []⟩
def b113 : IC := (.seq (.reg [⟨(some 2), 0, none, .mv (.c (.bool false))⟩]) (.seq (.seq (.reg [⟨(some 4), 0, none, .mv (.t 0)⟩,
  ⟨(some 5), 0, none, .len true (.t 4)⟩,
  ⟨(some 6), 0, none, .bin .neq (.t 5) (.c (.int .i64 4))⟩,
  ⟨(some 7), 0, none, .mv (.t 6)⟩,
  ⟨(some 8), 0, (some (7, false)), .mv (.t 0)⟩,
  ⟨(some 9), 0, (some (7, false)), .sidx (.t 8) (.c (.int .i64 0))⟩,
  ⟨(some 10), 0, (some (7, false)), .bin .lss (.t 9) (.c (.int .u8 65))⟩,
  ⟨(some 11), 0, none, .pick (.t 7) (.c (.bool true)) (.t 10)⟩,
  ⟨(some 12), 0, none, .mv (.t 11)⟩,
  ⟨(some 13), 0, (some (12, false)), .mv (.t 0)⟩,
  ⟨(some 14), 0, (some (12, false)), .sidx (.t 13) (.c (.int .i64 0))⟩,
  ⟨(some 15), 0, (some (12, false)), .bin .gtr (.t 14) (.c (.int .u8 90))⟩,
  ⟨(some 16), 0, none, .pick (.t 12) (.c (.bool true)) (.t 15)⟩]) (.cond (.t 16) (.seq (.reg [⟨(some 2), 0, none, .mv (.c (.bool false))⟩]) .ret) .skip)) (.seq (.seq (.reg [⟨(some 3), 0, none, .mv (.c (.int .i64 1))⟩]) (.block 0 (.loop n113_0 l113_0))) (.seq (.reg [⟨(some 2), 0, none, .mv (.c (.bool true))⟩]) .ret))))
def rs113 : List (Nat × Option Nat × Mode) := [(2, none, .plain)]
theorem chk113 : chkC Try.prog Try.f113.ntmps b113 (Try.f113.body.getD .skip) = true := by decide +kernel
theorem top113 {args : List Arg} {out : Out} (ha : args.length.ble Try.f113.ntmps = true) (h8 : args.length.ble 8 = true) (mss : List (List (Option Nat))) (hb : backOK args out.back)
    (hw : rnC Try.prog b113 (topQ rs113 args mss out) (slotsOf (argsAV argBase args 0) 0) (argsOb argBase args 0)) : CW Try.prog 113 args out :=
  CW.of Try.func113 rs113 mss (by decide +kernel) (by decide +kernel) (by decide +kernel) ha h8 chk113 hb hw
/- endonym/scan.Name -/
def l122_0 : IC := (.seq (.seq (.reg [⟨(some 17), 0, none, .mv (.t 3)⟩,
  ⟨(some 18), 0, none, .bin .lss (.t 17) (.c (.int .i64 4))⟩]) (.cond (.t 18) .skip (.exit 0))) (.seq (.block 1 (.seq (.reg [⟨(some 21), 0, none, .mv (.t 0)⟩,
  ⟨(some 22), 0, none, .mv (.t 3)⟩,
  ⟨(some 23), 0, none, .sidx (.t 21) (.t 22)⟩,
  ⟨(some 24), 0, none, .bin .lss (.t 23) (.c (.int .u8 97))⟩,
  ⟨(some 25), 0, none, .mv (.t 24)⟩,
  ⟨(some 26), 0, (some (25, false)), .mv (.t 0)⟩,
  ⟨(some 27), 0, (some (25, false)), .mv (.t 3)⟩,
  ⟨(some 28), 0, (some (25, false)), .sidx (.t 26) (.t 27)⟩,
  ⟨(some 29), 0, (some (25, false)), .bin .gtr (.t 28) (.c (.int .u8 122))⟩,
  ⟨(some 30), 0, none, .pick (.t 25) (.c (.bool true)) (.t 29)⟩]) (.cond (.t 30) (.seq (.reg [⟨(some 2), 0, none, .mv (.c (.bool false))⟩]) .ret) .skip))) (.reg [⟨(some 19), 0, none, .mv (.t 3)⟩,
  ⟨(some 20), 0, none, .bin .add (.t 19) (.c (.int .i64 1))⟩,
  ⟨(some 3), 0, none, .mv (.t 20)⟩])))
def n122_0 : Norm := ⟨[(0, .plain), (3, .plain)], []⟩
def b122 : IC := (.seq (.reg [⟨(some 2), 0, none, .mv (.c (.bool false))⟩]) (.seq (.seq (.reg [⟨(some 4), 0, none, .mv (.t 0)⟩,
  ⟨(some 5), 0, none, .len true (.t 4)⟩,
  ⟨(some 6), 0, none, .bin .neq (.t 5) (.c (.int .i64 4))⟩,
  ⟨(some 7), 0, none, .mv (.t 6)⟩,
  ⟨(some 8), 0, (some (7, false)), .mv (.t 0)⟩,
  ⟨(some 9), 0, (some (7, false)), .sidx (.t 8) (.c (.int .i64 0))⟩,
  ⟨(some 10), 0, (some (7, false)), .bin .lss (.t 9) (.c (.int .u8 65))⟩,
  ⟨(some 11), 0, none, .pick (.t 7) (.c (.bool true)) (.t 10)⟩,
  ⟨(some 12), 0, none, .mv (.t 11)⟩,
  ⟨(some 13), 0, (some (12, false)), .mv (.t 0)⟩,
  ⟨(some 14), 0, (some (12, false)), .sidx (.t 13) (.c (.int .i64 0))⟩,
  ⟨(some 15), 0, (some (12, false)), .bin .gtr (.t 14) (.c (.int .u8 90))⟩,
  ⟨(some 16), 0, none, .pick (.t 12) (.c (.bool true)) (.t 15)⟩]) (.cond (.t 16) (.seq (.reg [⟨(some 2), 0, none, .mv (.c (.bool false))⟩]) .ret) .skip)) (.seq (.seq (.reg [⟨(some 3), 0, none, .mv (.c (.int .i64 1))⟩]) (.block 0 (.loop n122_0 l122_0))) (.seq (.reg [⟨(some 2), 0, none, .mv (.c (.bool true))⟩]) .ret))))
def rs122 : List (Nat × Option Nat × Mode) := [(2, none, .plain)]
theorem chk122 : chkC Try.prog Try.f122.ntmps b122 (Try.f122.body.getD .skip) = true := by decide +kernel
theorem top122 {args : List Arg} {out : Out} (ha : args.length.ble Try.f122.ntmps = true) (h8 : args.length.ble 8 = true) (mss : List (List (Option Nat))) (hb : backOK args out.back)
    (hw : rnC Try.prog b122 (topQ rs122 args mss out) (slotsOf (argsAV argBase args 0) 0) (argsOb argBase args 0)) : CW Try.prog 122 args out :=
  CW.of Try.func122 rs122 mss (by decide +kernel) (by decide +kernel) (by decide +kernel) ha h8 chk122 hb hw
/- endonym/table.weighs -/
def b123 : IC := (.seq (.reg [⟨(some 1), 1, none, .box (.t 0)⟩,
  ⟨(some 2), 0, none, .mv (.c (.bool false))⟩]) (.seq (.reg [⟨(some 3), 0, none, .fa (.t 1) 7⟩,
  ⟨(some 4), 0, none, .ld (.t 3) none⟩,
  ⟨(some 5), 0, none, .fa (.t 1) 7⟩,
  ⟨(some 6), 0, none, .ld (.t 5) none⟩,
  ⟨(some 7), 0, none, .bin .eql (.t 4) (.t 6)⟩,
  ⟨(some 8), 0, none, .mv (.t 7)⟩,
  ⟨(some 9), 0, (some (8, true)), .fa (.t 1) 7⟩,
  ⟨(some 10), 0, (some (8, true)), .ld (.t 9) none⟩,
  ⟨(some 11), 2, (some (8, true)), .call (.c (.fn 132)) [((.t 10), .plain), ((.c (.flt 0)), .plain)]⟩,
  ⟨(some 12), 0, (some (8, true)), .bin .geq (.t 11) (.c (.int .i64 0))⟩,
  ⟨(some 13), 0, none, .pick (.t 8) (.t 12) (.c (.bool false))⟩,
  ⟨(some 2), 0, none, .mv (.t 13)⟩]) .ret))
def rs123 : List (Nat × Option Nat × Mode) := [(2, none, .plain)]
theorem chk123 : chkC Try.prog Try.f123.ntmps b123 (Try.f123.body.getD .skip) = true := by decide +kernel
theorem top123 {args : List Arg} {out : Out} (ha : args.length.ble Try.f123.ntmps = true) (h8 : args.length.ble 8 = true) (mss : List (List (Option Nat))) (hb : backOK args out.back)
    (hw : rnC Try.prog b123 (topQ rs123 args mss out) (slotsOf (argsAV argBase args 0) 0) (argsOb argBase args 0)) : CW Try.prog 123 args out :=
  CW.of Try.func123 rs123 mss (by decide +kernel) (by decide +kernel) (by decide +kernel) ha h8 chk123 hb hw
/- endonym/endonymref3.Sound -/
def l129_0 : IC := (.seq (.seq (.reg [⟨(some 4), 0, none, .mv (.t 3)⟩,
  ⟨(some 5), 0, none, .mv (.t 0)⟩,
  ⟨(some 6), 0, none, .len false (.t 5)⟩,
  ⟨(some 7), 0, none, .bin .lss (.t 4) (.t 6)⟩]) (.cond (.t 7) .skip (.exit 0))) (.seq (.block 1 (.seq (.reg [⟨(some 10), 0, none, .mv (.t 0)⟩,
  ⟨(some 11), 0, none, .mv (.t 3)⟩,
  ⟨(some 12), 0, none, .ia (.t 10) (.t 11) 1⟩,
  ⟨(some 13), 0, none, .ld (.t 12) none⟩,
  ⟨(some 14), 1, none, .call (.c (.fn 115)) [((.t 13), .plain)]⟩,
  ⟨(some 15), 0, none, .not (.t 14)⟩]) (.cond (.t 15) (.seq (.reg [⟨(some 2), 0, none, .mv (.c (.bool false))⟩]) .ret) .skip))) (.reg [⟨(some 8), 0, none, .mv (.t 3)⟩,
  ⟨(some 9), 0, none, .bin .add (.t 8) (.c (.int .i64 1))⟩,
  ⟨(some 3), 0, none, .mv (.t 9)⟩])))
def n129_0 : Norm := ⟨[(0, .plain), (3, .plain)], []⟩
def b129 : IC := (.seq (.reg [⟨(some 2), 0, none, .mv (.c (.bool false))⟩]) (.seq (.seq (.reg [⟨(some 3), 0, none, .mv (.c (.int .i64 0))⟩]) (.block 0 (.loop n129_0 l129_0))) (.seq (.reg [⟨(some 2), 0, none, .mv (.c (.bool true))⟩]) .ret)))
def rs129 : List (Nat × Option Nat × Mode) := [(2, none, .plain)]
theorem chk129 : chkC Try.prog Try.f129.ntmps b129 (Try.f129.body.getD .skip) = true := by decide +kernel
theorem top129 {args : List Arg} {out : Out} (ha : args.length.ble Try.f129.ntmps = true) (h8 : args.length.ble 8 = true) (mss : List (List (Option Nat))) (hb : backOK args out.back)
    (hw : rnC Try.prog b129 (topQ rs129 args mss out) (slotsOf (argsAV argBase args 0) 0) (argsOb argBase args 0)) : CW Try.prog 129 args out :=
  CW.of Try.func129 rs129 mss (by decide +kernel) (by decide +kernel) (by decide +kernel) ha h8 chk129 hb hw
/- endonym/endonymref3.Same -/
def l20_0 : IC := (.seq (.seq (.reg [⟨(some 11), 0, none, .mv (.t 5)⟩,
  ⟨(some 12), 0, none, .mv (.t 0)⟩,
  ⟨(some 13), 0, none, .len false (.t 12)⟩,
  ⟨(some 14), 0, none, .bin .lss (.t 11) (.t 13)⟩]) (.cond (.t 14) .skip (.exit 0))) (.seq (.block 1 (.seq (.draw (.take 0 ⟨(some 17), 0, none, .mv (.t 0)⟩ (.take 1 ⟨(some 18), 0, none, .mv (.t 5)⟩ (.take 2 ⟨(some 19), 0, none, .ia (.t 17) (.t 18) 1⟩ (.take 3 ⟨(some 20), 0, none, .ld (.t 19) none⟩ (.take 4 ⟨(some 21), 0, none, .mv (.t 1)⟩ (.take 5 ⟨(some 22), 0, none, .mv (.t 5)⟩ (.take 6 ⟨(some 23), 0, none, .ia (.t 21) (.t 22) 1⟩ (.take 7 ⟨(some 24), 0, none, .ld (.t 23) none⟩ (.take 8 ⟨(some 25), 0, none, .bin .neq (.t 20) (.t 24)⟩ .done)))))))))) (.cond (.t 25) (.seq (.reg [⟨(some 4), 0, none, .mv (.c (.bool false))⟩]) .ret) .skip))) (.reg [⟨(some 15), 0, none, .mv (.t 5)⟩,
  ⟨(some 16), 0, none, .bin .add (.t 15) (.c (.int .i64 1))⟩,
  ⟨(some 5), 0, none, .mv (.t 16)⟩])))
def n20_0 : Norm := ⟨[(0, .plain), (1, .plain), (5, .plain)], []⟩
def b20 : IC := (.seq (.reg [⟨(some 4), 0, none, .mv (.c (.bool false))⟩]) (.seq (.seq (.reg [⟨(some 6), 0, none, .mv (.t 0)⟩,
  ⟨(some 7), 0, none, .len false (.t 6)⟩,
  ⟨(some 8), 0, none, .mv (.t 1)⟩,
  ⟨(some 9), 0, none, .len false (.t 8)⟩,
  ⟨(some 10), 0, none, .bin .neq (.t 7) (.t 9)⟩]) (.cond (.t 10) (.seq (.reg [⟨(some 4), 0, none, .mv (.c (.bool false))⟩]) .ret) .skip)) (.seq (.seq (.reg [⟨(some 5), 0, none, .mv (.c (.int .i64 0))⟩]) (.block 0 (.loop n20_0 l20_0))) (.seq (.reg [⟨(some 4), 0, none, .mv (.c (.bool true))⟩]) .ret))))
def rs20 : List (Nat × Option Nat × Mode) := [(4, none, .plain)]
theorem chk20 : chkC Try.prog Try.f20.ntmps b20 (Try.f20.body.getD .skip) = true := by decide +kernel
theorem top20 {args : List Arg} {out : Out} (ha : args.length.ble Try.f20.ntmps = true) (h8 : args.length.ble 8 = true) (mss : List (List (Option Nat))) (hb : backOK args out.back)
    (hw : rnC Try.prog b20 (topQ rs20 args mss out) (slotsOf (argsAV argBase args 0) 0) (argsOb argBase args 0)) : CW Try.prog 20 args out :=
  CW.of Try.func20 rs20 mss (by decide +kernel) (by decide +kernel) (by decide +kernel) ha h8 chk20 hb hw
/- endonym/endonymref6.list -/
def b116 : IC := (.seq (.reg [⟨(some 6), 0, none, .mv (.c (.bool false))⟩]) (.seq (.reg [⟨(some 7), 0, none, .mv (.t 0)⟩,
  ⟨(some 8), 0, none, .len false (.t 7)⟩,
  ⟨(some 9), 0, none, .mv (.t 1)⟩,
  ⟨(some 10), 0, none, .bin .geq (.t 8) (.t 9)⟩,
  ⟨(some 11), 0, none, .mv (.t 10)⟩,
  ⟨(some 12), 0, (some (11, true)), .mv (.t 0)⟩,
  ⟨(some 13), 0, (some (11, true)), .len false (.t 12)⟩,
  ⟨(some 14), 0, (some (11, true)), .mv (.t 2)⟩,
  ⟨(some 15), 0, (some (11, true)), .bin .leq (.t 13) (.t 14)⟩,
  ⟨(some 16), 0, none, .pick (.t 11) (.t 15) (.c (.bool false))⟩,
  ⟨(some 17), 0, none, .mv (.t 16)⟩,
  ⟨(some 18), 0, (some (17, true)), .mv (.t 0)⟩,
  ⟨(some 19), 1, (some (17, true)), .call (.c (.fn 129)) [((.t 18), .view 1)]⟩,
  ⟨(some 20), 0, none, .pick (.t 17) (.t 19) (.c (.bool false))⟩,
  ⟨(some 6), 0, none, .mv (.t 20)⟩]) .ret))
def rs116 : List (Nat × Option Nat × Mode) := [(6, none, .plain)]
theorem chk116 : chkC Try.prog Try.f116.ntmps b116 (Try.f116.body.getD .skip) = true := by decide +kernel
theorem top116 {args : List Arg} {out : Out} (ha : args.length.ble Try.f116.ntmps = true) (h8 : args.length.ble 8 = true) (mss : List (List (Option Nat))) (hb : backOK args out.back)
    (hw : rnC Try.prog b116 (topQ rs116 args mss out) (slotsOf (argsAV argBase args 0) 0) (argsOb argBase args 0)) : CW Try.prog 116 args out :=
  CW.of Try.func116 rs116 mss (by decide +kernel) (by decide +kernel) (by decide +kernel) ha h8 chk116 hb hw
/- endonym/endonymref6.Speaks -/
def b68 : IC := (.seq (.reg [⟨(some 2), 1, none, .box (.t 0)⟩,
  ⟨(some 4), 0, none, .mv (.c (.bool false))⟩]) (.seq (.reg [⟨(some 6), 0, none, .ld (.t 2) (some 8)⟩,
  ⟨(some 7), 2, none, .call (.c (.fn 107)) [((.t 6), .plain)]⟩,
  ⟨(some 5), 0, none, .mv (.t 7)⟩]) (.seq (.reg [⟨(some 8), 0, none, .fa (.t 2) 0⟩,
  ⟨(some 9), 0, none, .ld (.t 8) none⟩,
  ⟨(some 10), 0, none, .bin .neq (.t 9) (.c (.int .i64 15))⟩,
  ⟨(some 11), 0, none, .mv (.t 10)⟩,
  ⟨(some 12), 0, (some (11, true)), .mv (.t 5)⟩,
  ⟨(some 13), 0, (some (11, true)), .bin .gtr (.t 12) (.c (.int .i64 0))⟩,
  ⟨(some 14), 0, none, .pick (.t 11) (.t 13) (.c (.bool false))⟩,
  ⟨(some 15), 0, none, .mv (.t 14)⟩,
  ⟨(some 16), 0, (some (15, true)), .mv (.t 1)⟩,
  ⟨(some 17), 0, (some (15, true)), .bin .geq (.t 16) (.c (.int .i64 0))⟩,
  ⟨(some 18), 0, none, .pick (.t 15) (.t 17) (.c (.bool false))⟩,
  ⟨(some 19), 0, none, .mv (.t 18)⟩,
  ⟨(some 20), 0, (some (19, true)), .mv (.t 1)⟩,
  ⟨(some 21), 0, (some (19, true)), .bin .leq (.t 20) (.c (.int .i64 1114111))⟩,
  ⟨(some 22), 0, none, .pick (.t 19) (.t 21) (.c (.bool false))⟩,
  ⟨(some 23), 0, none, .mv (.t 22)⟩,
  ⟨(some 24), 0, (some (23, true)), .mv (.t 1)⟩,
  ⟨(some 25), 0, (some (23, true)), .fa (.t 2) 1⟩,
  ⟨(some 26), 0, (some (23, true)), .ld (.t 25) none⟩,
  ⟨(some 27), 0, (some (23, true)), .bin .geq (.t 24) (.t 26)⟩,
  ⟨(some 28), 0, none, .pick (.t 23) (.t 27) (.c (.bool false))⟩,
  ⟨(some 29), 0, none, .mv (.t 28)⟩,
  ⟨(some 30), 0, (some (29, true)), .mv (.t 1)⟩,
  ⟨(some 31), 0, (some (29, true)), .fa (.t 2) 2⟩,
  ⟨(some 32), 0, (some (29, true)), .ld (.t 31) none⟩,
  ⟨(some 33), 0, (some (29, true)), .bin .leq (.t 30) (.t 32)⟩,
  ⟨(some 34), 0, none, .pick (.t 29) (.t 33) (.c (.bool false))⟩,
  ⟨(some 35), 0, none, .mv (.t 34)⟩,
  ⟨(some 36), 0, (some (35, true)), .mv (.t 1)⟩,
  ⟨(some 37), 0, (some (35, true)), .conv .u64 (.t 36)⟩,
  ⟨(some 38), 0, (some (35, true)), .fa (.t 2) 1⟩,
  ⟨(some 39), 0, (some (35, true)), .ld (.t 38) none⟩,
  ⟨(some 40), 0, (some (35, true)), .conv .u64 (.t 39)⟩,
  ⟨(some 41), 0, (some (35, true)), .bin .sub (.t 37) (.t 40)⟩,
  ⟨(some 42), 0, (some (35, true)), .mv (.t 5)⟩,
  ⟨(some 43), 0, (some (35, true)), .conv .u64 (.t 42)⟩,
  ⟨(some 44), 0, (some (35, true)), .bin .rem (.t 41) (.t 43)⟩,
  ⟨(some 45), 0, (some (35, true)), .bin .eql (.t 44) (.c (.int .u64 0))⟩,
  ⟨(some 46), 0, none, .pick (.t 35) (.t 45) (.c (.bool false))⟩,
  ⟨(some 4), 0, none, .mv (.t 46)⟩]) .ret)))
def rs68 : List (Nat × Option Nat × Mode) := [(4, none, .plain)]
theorem chk68 : chkC Try.prog Try.f68.ntmps b68 (Try.f68.body.getD .skip) = true := by decide +kernel
theorem top68 {args : List Arg} {out : Out} (ha : args.length.ble Try.f68.ntmps = true) (h8 : args.length.ble 8 = true) (mss : List (List (Option Nat))) (hb : backOK args out.back)
    (hw : rnC Try.prog b68 (topQ rs68 args mss out) (slotsOf (argsAV argBase args 0) 0) (argsOb argBase args 0)) : CW Try.prog 68 args out :=
  CW.of Try.func68 rs68 mss (by decide +kernel) (by decide +kernel) (by decide +kernel) ha h8 chk68 hb hw

theorem w43 (c : Int) (Q : Ex → Slots → LH → Prop) (hQ : ∀ σ H, Slots.get σ 2 = .c (.bool (syl c)) → Q .ret σ H) : rnC Try.prog b43 Q [(0, .c (.int .i32 c))] [] := by
  unfold b43
  simp only [go_sem, ↓reduceIte, Nat.reduceEqDiff, Nat.reduceMul, Nat.reduceAdd, Nat.reduceDiv, Nat.reduceSub, Nat.reduceLT, Nat.reduceLeDiff, Int.reduceLE, Int.reduceLT, Int.reduceToNat, Int.reduceEq]
  exact hQ _ _ rfl
theorem cw43 (c : Int) : CW Try.prog 43 [.cv (.int .i32 c)] ⟨[.cv (.bool (syl c))], []⟩ :=
  top43 rfl rfl [] trivial (w43 c _ fun σ H h => ret1 rfl h)
def refL (c : Int) : Bool := decide (4352 ≤ c) && decide (c ≤ 4370)
def refV (c : Int) : Bool := decide (4449 ≤ c) && decide (c ≤ 4469)
def refT (c : Int) : Bool := decide (4520 ≤ c) && decide (c ≤ 4546)
theorem w75 (c : Int) (Q : Ex → Slots → LH → Prop) (hQ : ∀ σ H, Slots.get σ 2 = .c (.bool (refL c)) → Q .ret σ H) : rnC Try.prog b75 Q [(0, .c (.int .i32 c))] [] := by
  unfold b75
  simp only [go_sem, ↓reduceIte, Nat.reduceEqDiff, Nat.reduceMul, Nat.reduceAdd, Nat.reduceDiv, Nat.reduceSub, Nat.reduceLT, Nat.reduceLeDiff, Int.reduceLE, Int.reduceLT, Int.reduceToNat, Int.reduceEq]
  exact hQ _ _ rfl
theorem cw75 (c : Int) : CW Try.prog 75 [.cv (.int .i32 c)] ⟨[.cv (.bool (refL c))], []⟩ :=
  top75 rfl rfl [] trivial (w75 c _ fun σ H h => ret1 rfl h)
theorem w76 (c : Int) (Q : Ex → Slots → LH → Prop) (hQ : ∀ σ H, Slots.get σ 2 = .c (.bool (refV c)) → Q .ret σ H) : rnC Try.prog b76 Q [(0, .c (.int .i32 c))] [] := by
  unfold b76
  simp only [go_sem, ↓reduceIte, Nat.reduceEqDiff, Nat.reduceMul, Nat.reduceAdd, Nat.reduceDiv, Nat.reduceSub, Nat.reduceLT, Nat.reduceLeDiff, Int.reduceLE, Int.reduceLT, Int.reduceToNat, Int.reduceEq]
  exact hQ _ _ rfl
theorem cw76 (c : Int) : CW Try.prog 76 [.cv (.int .i32 c)] ⟨[.cv (.bool (refV c))], []⟩ :=
  top76 rfl rfl [] trivial (w76 c _ fun σ H h => ret1 rfl h)
theorem w77 (c : Int) (Q : Ex → Slots → LH → Prop) (hQ : ∀ σ H, Slots.get σ 2 = .c (.bool (refT c)) → Q .ret σ H) : rnC Try.prog b77 Q [(0, .c (.int .i32 c))] [] := by
  unfold b77
  simp only [go_sem, ↓reduceIte, Nat.reduceEqDiff, Nat.reduceMul, Nat.reduceAdd, Nat.reduceDiv, Nat.reduceSub, Nat.reduceLT, Nat.reduceLeDiff, Int.reduceLE, Int.reduceLT, Int.reduceToNat, Int.reduceEq]
  exact hQ _ _ rfl
theorem cw77 (c : Int) : CW Try.prog 77 [.cv (.int .i32 c)] ⟨[.cv (.bool (refT c))], []⟩ :=
  top77 rfl rfl [] trivial (w77 c _ fun σ H h => ret1 rfl h)
def coversR (r : Rec) (lo hi : Int) : Bool := decide (r.lo ≤ hi) && decide (lo ≤ r.hi)
theorem w74 (r : Rec) (lo hi : Int) (Q : Ex → Slots → LH → Prop) (hQ : ∀ σ H, Slots.get σ 6 = .c (.bool (coversR r lo hi)) → Q .ret σ H) : rnC Try.prog b74 Q [(0, .c (Rec.cv r)), (1, .c (.int .i64 lo)), (2, .c (.int .i64 hi))] [] := by
  unfold b74
  simp only [go_sem, ↓reduceIte, Nat.reduceEqDiff, Nat.reduceMul, Nat.reduceAdd, Nat.reduceDiv, Nat.reduceSub, Nat.reduceLT, Nat.reduceLeDiff, Int.reduceLE, Int.reduceLT, Int.reduceToNat, Int.reduceEq]
  exact hQ _ _ rfl
theorem cw74 (r : Rec) (lo hi : Int) : CW Try.prog 74 [.cv (Rec.cv r), .cv (.int .i64 lo), .cv (.int .i64 hi)] ⟨[.cv (.bool (coversR r lo hi))], []⟩ :=
  top74 rfl rfl [] trivial (w74 r lo hi _ fun σ H h => ret1 rfl h)
def stepR (r : Rec) : Int := if r.kind = 4 then if r.n < 0 then 0 else r.n else 1
theorem w107 (r : Rec) (Q : Ex → Slots → LH → Prop) (hQ : ∀ σ H, Slots.get σ 2 = .c (.int .i64 (stepR r)) → Q .ret σ H) : rnC Try.prog b107 Q [(0, .c (Rec.cv r))] [] := by
  unfold b107
  simp only [go_sem, ↓reduceIte, Nat.reduceEqDiff, Nat.reduceMul, Nat.reduceAdd, Nat.reduceDiv, Nat.reduceSub, Nat.reduceLT, Nat.reduceLeDiff, Int.reduceLE, Int.reduceLT, Int.reduceToNat, Int.reduceEq]
  repeat' (first | apply And.intro | intro _)
  all_goals (try omega)
  all_goals (try (apply hQ; all_goals try (simp only [go_sem, ↓reduceIte, Nat.reduceEqDiff, Nat.reduceMul, Nat.reduceAdd, Nat.reduceDiv, Nat.reduceSub, Nat.reduceLT, Nat.reduceLeDiff, Int.reduceLE, Int.reduceLT, Int.reduceToNat, Int.reduceEq, stepR])))
  all_goals simp [*]
theorem cw107 (r : Rec) : CW Try.prog 107 [.cv (Rec.cv r)] ⟨[.cv (.int .i64 (stepR r))], []⟩ :=
  top107 rfl rfl [] trivial (w107 r _ fun σ H h => ret1 rfl h)
def rankF (x : Nat) : Int :=
  if ¬(FloatKind.f64.format.order x x = some Ordering.eq) then 9223372036854775807 else
  if IntKind.i64.wrap x < 0 then IntKind.i64.wrap (IntKind.i64.wrap (-9223372036854775808 - IntKind.i64.wrap x) - 1) else IntKind.i64.wrap x
theorem w137 (x : Nat) (Q : Ex → Slots → LH → Prop) (hQ : ∀ σ H, Slots.get σ 2 = .c (.int .i64 (rankF x)) → Q .ret σ H) : rnC Try.prog b137 Q [(0, .c (.flt x))] [] := by
  unfold b137
  simp only [go_sem, ↓reduceIte, Nat.reduceEqDiff, Nat.reduceMul, Nat.reduceAdd, Nat.reduceDiv, Nat.reduceSub, Nat.reduceLT, Nat.reduceLeDiff, Int.reduceLE, Int.reduceLT, Int.reduceToNat, Int.reduceEq]
  refine ⟨fun h => hQ _ _ ?_, fun h => ?_⟩
  · simp only [go_sem, ↓reduceIte, Nat.reduceEqDiff, Nat.reduceMul, Nat.reduceAdd, Nat.reduceDiv, Nat.reduceSub, Nat.reduceLT, Nat.reduceLeDiff, Int.reduceLE, Int.reduceLT, Int.reduceToNat, Int.reduceEq, rankF, h]
  refine callK_1 _ (fun _ => cw69 _) (by simp only [go_sem, ↓reduceIte, Nat.reduceEqDiff, Nat.reduceMul, Nat.reduceAdd, Nat.reduceDiv, Nat.reduceSub, Nat.reduceLT, Nat.reduceLeDiff, Int.reduceLE, Int.reduceLT, Int.reduceToNat, Int.reduceEq]) rfl rfl ?_
  simp only [go_sem, ↓reduceIte, Nat.reduceEqDiff, Nat.reduceMul, Nat.reduceAdd, Nat.reduceDiv, Nat.reduceSub, Nat.reduceLT, Nat.reduceLeDiff, Int.reduceLE, Int.reduceLT, Int.reduceToNat, Int.reduceEq]
  repeat (refine ⟨by (first | omega | (intro h1 h2; exact ⟨h1, h2⟩) | (intro h1; omega) | (intro h1; exact h1) | trivial), ?_⟩)
  repeat' (first | apply And.intro | intro _)
  all_goals (try omega)
  all_goals (try (apply hQ; all_goals try (simp only [go_sem, ↓reduceIte, Nat.reduceEqDiff, Nat.reduceMul, Nat.reduceAdd, Nat.reduceDiv, Nat.reduceSub, Nat.reduceLT, Nat.reduceLeDiff, Int.reduceLE, Int.reduceLT, Int.reduceToNat, Int.reduceEq, rankF])))
  all_goals simp [*]
  all_goals omega
theorem cw137 (x : Nat) : CW Try.prog 137 [.cv (.flt x)] ⟨[.cv (.int .i64 (rankF x))], []⟩ :=
  top137 rfl rfl [] trivial (w137 x _ fun σ H h => ret1 rfl h)
def orderF (x y : Nat) : Int := if rankF x < rankF y then -1 else if rankF y < rankF x then 1 else 0
theorem w132 (x y : Nat) (Q : Ex → Slots → LH → Prop) (hQ : ∀ σ H, Slots.get σ 4 = .c (.int .i64 (orderF x y)) → Q .ret σ H) : rnC Try.prog b132 Q [(0, .c (.flt x)), (1, .c (.flt y))] [] := by
  unfold b132
  simp only [go_sem, ↓reduceIte, Nat.reduceEqDiff, Nat.reduceMul, Nat.reduceAdd, Nat.reduceDiv, Nat.reduceSub, Nat.reduceLT, Nat.reduceLeDiff, Int.reduceLE, Int.reduceLT, Int.reduceToNat, Int.reduceEq]
  refine callK_1 _ (fun _ => cw137 _) (by simp only [go_sem, ↓reduceIte, Nat.reduceEqDiff, Nat.reduceMul, Nat.reduceAdd, Nat.reduceDiv, Nat.reduceSub, Nat.reduceLT, Nat.reduceLeDiff, Int.reduceLE, Int.reduceLT, Int.reduceToNat, Int.reduceEq]) rfl rfl ?_
  simp only [go_sem, ↓reduceIte, Nat.reduceEqDiff, Nat.reduceMul, Nat.reduceAdd, Nat.reduceDiv, Nat.reduceSub, Nat.reduceLT, Nat.reduceLeDiff, Int.reduceLE, Int.reduceLT, Int.reduceToNat, Int.reduceEq]
  repeat (refine ⟨by (first | omega | (intro h1 h2; exact ⟨h1, h2⟩) | (intro h1; omega) | (intro h1; exact h1) | trivial), ?_⟩)
  refine callK_1 _ (fun _ => cw137 _) (by simp only [go_sem, ↓reduceIte, Nat.reduceEqDiff, Nat.reduceMul, Nat.reduceAdd, Nat.reduceDiv, Nat.reduceSub, Nat.reduceLT, Nat.reduceLeDiff, Int.reduceLE, Int.reduceLT, Int.reduceToNat, Int.reduceEq]) rfl rfl ?_
  simp only [go_sem, ↓reduceIte, Nat.reduceEqDiff, Nat.reduceMul, Nat.reduceAdd, Nat.reduceDiv, Nat.reduceSub, Nat.reduceLT, Nat.reduceLeDiff, Int.reduceLE, Int.reduceLT, Int.reduceToNat, Int.reduceEq]
  repeat (refine ⟨by (first | omega | (intro h1 h2; exact ⟨h1, h2⟩) | (intro h1; omega) | (intro h1; exact h1) | trivial), ?_⟩)
  repeat' (first | apply And.intro | intro _)
  all_goals (try omega)
  all_goals (try (apply hQ; all_goals try (simp only [go_sem, ↓reduceIte, Nat.reduceEqDiff, Nat.reduceMul, Nat.reduceAdd, Nat.reduceDiv, Nat.reduceSub, Nat.reduceLT, Nat.reduceLeDiff, Int.reduceLE, Int.reduceLT, Int.reduceToNat, Int.reduceEq, orderF])))
  all_goals congr 2
  all_goals (repeat' split) <;> omega
theorem cw132 (x y : Nat) : CW Try.prog 132 [.cv (.flt x), .cv (.flt y)] ⟨[.cv (.int .i64 (orderF x y))], []⟩ :=
  top132 rfl rfl [] trivial (w132 x y _ fun σ H h => ret1 rfl h)
theorem w115 (c : Int) (Q : Ex → Slots → LH → Prop) (hQ : ∀ σ H, Slots.get σ 2 = .c (.bool (valid c)) → Q .ret σ H) : rnC Try.prog b115 Q [(0, .c (.int .i32 c))] [] := by
  unfold b115
  simp only [go_sem, ↓reduceIte, Nat.reduceEqDiff, Nat.reduceMul, Nat.reduceAdd, Nat.reduceDiv, Nat.reduceSub, Nat.reduceLT, Nat.reduceLeDiff, Int.reduceLE, Int.reduceLT, Int.reduceToNat, Int.reduceEq]
  refine ⟨fun h1 h2 => ⟨h1, h2⟩, hQ _ _ ?_⟩
  simp only [go_sem, ↓reduceIte, Nat.reduceEqDiff, Nat.reduceMul, Nat.reduceAdd, Nat.reduceDiv, Nat.reduceSub, Nat.reduceLT, Nat.reduceLeDiff, Int.reduceLE, Int.reduceLT, Int.reduceToNat, Int.reduceEq, valid]
  congr 2
  rw [Bool.eq_iff_iff]
  simp
  omega
theorem cw115 (c : Int) : CW Try.prog 115 [.cv (.int .i32 c)] ⟨[.cv (.bool (valid c))], []⟩ :=
  top115 rfl rfl [] trivial (w115 c _ fun σ H h => ret1 rfl h)
theorem w67 (k : Int) (Q : Ex → Slots → LH → Prop) (hQ : ∀ σ H, Slots.get σ 2 = .c (.int .i64 (famK k)) → Q .ret σ H) : rnC Try.prog b67 Q [(0, .c (.int .i64 k))] [] := by
  unfold b67
  simp only [go_sem, ↓reduceIte, Nat.reduceEqDiff, Nat.reduceMul, Nat.reduceAdd, Nat.reduceDiv, Nat.reduceSub, Nat.reduceLT, Nat.reduceLeDiff, Int.reduceLE, Int.reduceLT, Int.reduceToNat, Int.reduceEq]
  refine ⟨fun h => hQ _ _ ?_, fun h => ⟨by omega, hQ _ _ ?_⟩⟩
  · simp only [go_sem, ↓reduceIte, Nat.reduceEqDiff, Nat.reduceMul, Nat.reduceAdd, Nat.reduceDiv, Nat.reduceSub, Nat.reduceLT, Nat.reduceLeDiff, Int.reduceLE, Int.reduceLT, Int.reduceToNat, Int.reduceEq, famK]
    congr 2
    (repeat' split) <;> omega
  · have : k = 1 ∨ k = 2 ∨ k = 3 ∨ k = 4 ∨ k = 5 ∨ k = 6 ∨ k = 7 ∨ k = 8 ∨ k = 9 ∨ k = 10 ∨ k = 11 ∨ k = 12 ∨ k = 13 ∨ k = 14 ∨ k = 15 := by omega
    rcases this with h | h | h | h | h | h | h | h | h | h | h | h | h | h | h <;> subst h <;> rfl
theorem cw67 (k : Int) : CW Try.prog 67 [.cv (.int .i64 k)] ⟨[.cv (.int .i64 (famK k))], []⟩ :=
  top67 rfl rfl [] trivial (w67 k _ fun σ H h => ret1 rfl h)
/-- Nothing stands but in these fields. -/
def bareR (r : Rec) (n t m o w : Bool) : Bool :=
  (((((n || decide (r.n = 0)) && (t || decide (r.to = []))) && (m || decide (r.name.data.toList = []))) && (o || decide (r.other.data.toList = []))) && (w || decide (r.weight = 0)))
theorem zlen {l : List Int} : ((l.length : Int) = 0) = (l = []) := by cases l <;> simp; omega
attribute [go_sem] zlen
theorem w112 (r : Rec) (n t m o w : Bool) (Q : Ex → Slots → LH → Prop) (hQ : ∀ σ H, Slots.get σ 12 = .c (.bool (bareR r n t m o w)) → Q .ret σ H) : rnC Try.prog b112 Q [(0, .c (Rec.cv r)), (1, .c (.bool n)), (2, .c (.bool t)), (3, .c (.bool m)), (4, .c (.bool o)), (5, .c (.bool w))] [] := by
  unfold b112
  simp only [go_sem, ↓reduceIte, Nat.reduceEqDiff, Nat.reduceMul, Nat.reduceAdd, Nat.reduceDiv, Nat.reduceSub, Nat.reduceLT, Nat.reduceLeDiff, Int.reduceLE, Int.reduceLT, Int.reduceToNat, Int.reduceEq]
  repeat (refine ⟨by (first | omega | (intro h1 h2; exact ⟨h1, h2⟩) | (intro h1; omega) | (intro h1; exact h1) | trivial), ?_⟩)
  refine callK_1 _ (fun _ => cw69 _) (by simp only [go_sem, ↓reduceIte, Nat.reduceEqDiff, Nat.reduceMul, Nat.reduceAdd, Nat.reduceDiv, Nat.reduceSub, Nat.reduceLT, Nat.reduceLeDiff, Int.reduceLE, Int.reduceLT, Int.reduceToNat, Int.reduceEq]) rfl rfl ?_
  simp only [go_sem, ↓reduceIte, Nat.reduceEqDiff, Nat.reduceMul, Nat.reduceAdd, Nat.reduceDiv, Nat.reduceSub, Nat.reduceLT, Nat.reduceLeDiff, Int.reduceLE, Int.reduceLT, Int.reduceToNat, Int.reduceEq]
  repeat (refine ⟨by (first | omega | (intro h1 h2; exact ⟨h1, h2⟩) | (intro h1; omega) | (intro h1; exact h1) | trivial), ?_⟩)
  apply hQ
  all_goals simp only [go_sem, ↓reduceIte, Nat.reduceEqDiff, Nat.reduceMul, Nat.reduceAdd, Nat.reduceDiv, Nat.reduceSub, Nat.reduceLT, Nat.reduceLeDiff, Int.reduceLE, Int.reduceLT, Int.reduceToNat, Int.reduceEq, bareR]
  congr 2
  rw [Bool.eq_iff_iff]
  simp
theorem cw112 (r : Rec) (n t m o w : Bool) : CW Try.prog 112 [.cv (Rec.cv r), .cv (.bool n), .cv (.bool t), .cv (.bool m), .cv (.bool o), .cv (.bool w)] ⟨[.cv (.bool (bareR r n t m o w))], []⟩ :=
  top112 rfl rfl [] trivial (w112 r n t m o w _ fun σ H h => ret1 rfl h)
def weightR (x : Nat) : Bool := decide (x ≤ 9218868437227405312)
theorem w114 (x : Nat) (Q : Ex → Slots → LH → Prop) (hQ : ∀ σ H, Slots.get σ 2 = .c (.bool (weightR x)) → Q .ret σ H) : rnC Try.prog b114 Q [(0, .c (.flt x))] [] := by
  unfold b114
  simp only [go_sem, ↓reduceIte, Nat.reduceEqDiff, Nat.reduceMul, Nat.reduceAdd, Nat.reduceDiv, Nat.reduceSub, Nat.reduceLT, Nat.reduceLeDiff, Int.reduceLE, Int.reduceLT, Int.reduceToNat, Int.reduceEq]
  refine callK_1 _ (fun _ => cw69 _) (by simp only [go_sem, ↓reduceIte, Nat.reduceEqDiff, Nat.reduceMul, Nat.reduceAdd, Nat.reduceDiv, Nat.reduceSub, Nat.reduceLT, Nat.reduceLeDiff, Int.reduceLE, Int.reduceLT, Int.reduceToNat, Int.reduceEq]) rfl rfl ?_
  simp only [go_sem, ↓reduceIte, Nat.reduceEqDiff, Nat.reduceMul, Nat.reduceAdd, Nat.reduceDiv, Nat.reduceSub, Nat.reduceLT, Nat.reduceLeDiff, Int.reduceLE, Int.reduceLT, Int.reduceToNat, Int.reduceEq]
  repeat (refine ⟨by (first | omega | (intro h1 h2; exact ⟨h1, h2⟩) | (intro h1; omega) | (intro h1; exact h1) | trivial), ?_⟩)
  repeat' (first | apply And.intro | intro _)
  all_goals (try omega)
  all_goals (try (apply hQ; all_goals try (simp only [go_sem, ↓reduceIte, Nat.reduceEqDiff, Nat.reduceMul, Nat.reduceAdd, Nat.reduceDiv, Nat.reduceSub, Nat.reduceLT, Nat.reduceLeDiff, Int.reduceLE, Int.reduceLT, Int.reduceToNat, Int.reduceEq, weightR])))
  congr 2
  rw [Bool.eq_iff_iff]
  simp
  omega
theorem cw114 (x : Nat) : CW Try.prog 114 [.cv (.flt x)] ⟨[.cv (.bool (weightR x))], []⟩ :=
  top114 rfl rfl [] trivial (w114 x _ fun σ H h => ret1 rfl h)
def lowS (s : ByteArray) (k : Nat) : Bool := decide (97 ≤ at8 s k) && decide (at8 s k ≤ 122)
/-- A script's name. -/
def nameS (s : ByteArray) : Bool :=
  decide (s.size = 4) && decide (65 ≤ at8 s 0) && decide (at8 s 0 ≤ 90) && (List.range' 1 3).all (lowS s)
theorem w113 (s : ByteArray) (Q : Ex → Slots → LH → Prop) (hQ : ∀ σ H, Slots.get σ 2 = .c (.bool (nameS s)) → Q .ret σ H) : rnC Try.prog b113 Q [(0, .c (.str s))] [] := by
  unfold b113
  simp only [go_sem, ↓reduceIte, Nat.reduceEqDiff, Nat.reduceMul, Nat.reduceAdd, Nat.reduceDiv, Nat.reduceSub, Nat.reduceLT, Nat.reduceLeDiff, Int.reduceLE, Int.reduceLT, Int.reduceToNat, Int.reduceEq]
  repeat (refine ⟨by (first | omega | (intro h1 h2; exact ⟨h1, h2⟩) | (intro h1; omega) | (intro h1; exact h1) | trivial), ?_⟩)
  refine ⟨fun h => ?_, fun h => ?_⟩
  · apply hQ
    all_goals simp only [go_sem, ↓reduceIte, Nat.reduceEqDiff, Nat.reduceMul, Nat.reduceAdd, Nat.reduceDiv, Nat.reduceSub, Nat.reduceLT, Nat.reduceLeDiff, Int.reduceLE, Int.reduceLT, Int.reduceToNat, Int.reduceEq, nameS]
    have : (decide (s.size = 4) && decide (65 ≤ at8 s 0) && decide (at8 s 0 ≤ 90)) = false := by
      simp; omega
    rw [this]; rfl
  have hn : nameS s = (List.range' 1 3).all (lowS s) := by
    have : (decide (s.size = 4) && decide (65 ≤ at8 s 0) && decide (at8 s 0 ≤ 90)) = true := by
      simp; omega
    unfold nameS
    rw [this]; rfl
  rw [hn] at hQ
  refine loopR.by (α := Nat) (fun k => [(0, .c (.str s)), (3, .c (.int .i64 k))]) (fun _ => []) (fun k => 4 - k)
    (fun k => 1 ≤ k ∧ k ≤ 4 ∧ (List.range' k (4 - k)).all (lowS s) = (List.range' 1 3).all (lowS s)) 1 ⟨by omega, by omega, rfl⟩ ?_ ?_
  · intro Y hY
    simp only [go_sem, ↓reduceIte, Nat.reduceEqDiff, Nat.reduceMul, Nat.reduceAdd, Nat.reduceDiv, Nat.reduceSub, Nat.reduceLT, Nat.reduceLeDiff, Int.reduceLE, Int.reduceLT, Int.reduceToNat, Int.reduceEq, n113_0]
    exact hY
  · intro k hk Y hY
    unfold l113_0
    rcases Nat.lt_or_ge k 4 with hlt | hge
    · have hf := hk.2.2
      have e : 4 - k = (4 - (k + 1)) + 1 := by omega
      rw [e, List.range'_succ, List.all_cons] at hf
      simp only [go_sem, ↓reduceIte, Nat.reduceEqDiff, Nat.reduceMul, Nat.reduceAdd, Nat.reduceDiv, Nat.reduceSub, Nat.reduceLT, Nat.reduceLeDiff, Int.reduceLE, Int.reduceLT, Int.reduceToNat, Int.reduceEq, n113_0]
      refine ⟨fun _ => ⟨by omega, fun _ => by omega, fun h1 => hQ _ _ ?_, fun h1 => ?_⟩, fun h => by omega⟩
      · simp only [go_sem, ↓reduceIte, Nat.reduceEqDiff, Nat.reduceMul, Nat.reduceAdd, Nat.reduceDiv, Nat.reduceSub, Nat.reduceLT, Nat.reduceLeDiff, Int.reduceLE, Int.reduceLT, Int.reduceToNat, Int.reduceEq]
        rw [← hf]
        have : lowS s k = false := by unfold lowS; simp; omega
        rw [this]; rfl
      · rw [succ64 hlt (by omega)]
        refine hY (k + 1) ⟨by omega, by omega, ?_⟩ (by omega)
        rw [← hf]
        have : lowS s k = true := by unfold lowS; simp; omega
        rw [this]; rfl
    · simp only [go_sem, ↓reduceIte, Nat.reduceEqDiff, Nat.reduceMul, Nat.reduceAdd, Nat.reduceDiv, Nat.reduceSub, Nat.reduceLT, Nat.reduceLeDiff, Int.reduceLE, Int.reduceLT, Int.reduceToNat, Int.reduceEq, n113_0]
      refine ⟨fun h => by omega, fun _ => hQ _ _ ?_⟩
      have : k = 4 := by omega
      subst this
      simp only [go_sem, ↓reduceIte, Nat.reduceEqDiff, Nat.reduceMul, Nat.reduceAdd, Nat.reduceDiv, Nat.reduceSub, Nat.reduceLT, Nat.reduceLeDiff, Int.reduceLE, Int.reduceLT, Int.reduceToNat, Int.reduceEq]
      rw [← hk.2.2]; rfl
theorem cw113 (s : ByteArray) : CW Try.prog 113 [.cv (.str s)] ⟨[.cv (.bool (nameS s))], []⟩ :=
  top113 rfl rfl [] trivial (w113 s _ fun σ H h => ret1 rfl h)
theorem w122 (s : ByteArray) (Q : Ex → Slots → LH → Prop) (hQ : ∀ σ H, Slots.get σ 2 = .c (.bool (nameS s)) → Q .ret σ H) : rnC Try.prog b122 Q [(0, .c (.str s))] [] := by
  unfold b122
  simp only [go_sem, ↓reduceIte, Nat.reduceEqDiff, Nat.reduceMul, Nat.reduceAdd, Nat.reduceDiv, Nat.reduceSub, Nat.reduceLT, Nat.reduceLeDiff, Int.reduceLE, Int.reduceLT, Int.reduceToNat, Int.reduceEq]
  repeat (refine ⟨by (first | omega | (intro h1 h2; exact ⟨h1, h2⟩) | (intro h1; omega) | (intro h1; exact h1) | trivial), ?_⟩)
  refine ⟨fun h => ?_, fun h => ?_⟩
  · apply hQ
    all_goals simp only [go_sem, ↓reduceIte, Nat.reduceEqDiff, Nat.reduceMul, Nat.reduceAdd, Nat.reduceDiv, Nat.reduceSub, Nat.reduceLT, Nat.reduceLeDiff, Int.reduceLE, Int.reduceLT, Int.reduceToNat, Int.reduceEq, nameS]
    have : (decide (s.size = 4) && decide (65 ≤ at8 s 0) && decide (at8 s 0 ≤ 90)) = false := by
      simp; omega
    rw [this]; rfl
  have hn : nameS s = (List.range' 1 3).all (lowS s) := by
    have : (decide (s.size = 4) && decide (65 ≤ at8 s 0) && decide (at8 s 0 ≤ 90)) = true := by
      simp; omega
    unfold nameS
    rw [this]; rfl
  rw [hn] at hQ
  refine loopR.by (α := Nat) (fun k => [(0, .c (.str s)), (3, .c (.int .i64 k))]) (fun _ => []) (fun k => 4 - k)
    (fun k => 1 ≤ k ∧ k ≤ 4 ∧ (List.range' k (4 - k)).all (lowS s) = (List.range' 1 3).all (lowS s)) 1 ⟨by omega, by omega, rfl⟩ ?_ ?_
  · intro Y hY
    simp only [go_sem, ↓reduceIte, Nat.reduceEqDiff, Nat.reduceMul, Nat.reduceAdd, Nat.reduceDiv, Nat.reduceSub, Nat.reduceLT, Nat.reduceLeDiff, Int.reduceLE, Int.reduceLT, Int.reduceToNat, Int.reduceEq, n122_0]
    exact hY
  · intro k hk Y hY
    unfold l122_0
    rcases Nat.lt_or_ge k 4 with hlt | hge
    · have hf := hk.2.2
      have e : 4 - k = (4 - (k + 1)) + 1 := by omega
      rw [e, List.range'_succ, List.all_cons] at hf
      simp only [go_sem, ↓reduceIte, Nat.reduceEqDiff, Nat.reduceMul, Nat.reduceAdd, Nat.reduceDiv, Nat.reduceSub, Nat.reduceLT, Nat.reduceLeDiff, Int.reduceLE, Int.reduceLT, Int.reduceToNat, Int.reduceEq, n122_0]
      refine ⟨fun _ => ⟨by omega, fun _ => by omega, fun h1 => hQ _ _ ?_, fun h1 => ?_⟩, fun h => by omega⟩
      · simp only [go_sem, ↓reduceIte, Nat.reduceEqDiff, Nat.reduceMul, Nat.reduceAdd, Nat.reduceDiv, Nat.reduceSub, Nat.reduceLT, Nat.reduceLeDiff, Int.reduceLE, Int.reduceLT, Int.reduceToNat, Int.reduceEq]
        rw [← hf]
        have : lowS s k = false := by unfold lowS; simp; omega
        rw [this]; rfl
      · rw [succ64 hlt (by omega)]
        refine hY (k + 1) ⟨by omega, by omega, ?_⟩ (by omega)
        rw [← hf]
        have : lowS s k = true := by unfold lowS; simp; omega
        rw [this]; rfl
    · simp only [go_sem, ↓reduceIte, Nat.reduceEqDiff, Nat.reduceMul, Nat.reduceAdd, Nat.reduceDiv, Nat.reduceSub, Nat.reduceLT, Nat.reduceLeDiff, Int.reduceLE, Int.reduceLT, Int.reduceToNat, Int.reduceEq, n122_0]
      refine ⟨fun h => by omega, fun _ => hQ _ _ ?_⟩
      have : k = 4 := by omega
      subst this
      simp only [go_sem, ↓reduceIte, Nat.reduceEqDiff, Nat.reduceMul, Nat.reduceAdd, Nat.reduceDiv, Nat.reduceSub, Nat.reduceLT, Nat.reduceLeDiff, Int.reduceLE, Int.reduceLT, Int.reduceToNat, Int.reduceEq]
      rw [← hk.2.2]; rfl
theorem cw122 (s : ByteArray) : CW Try.prog 122 [.cv (.str s)] ⟨[.cv (.bool (nameS s))], []⟩ :=
  top122 rfl rfl [] trivial (w122 s _ fun σ H h => ret1 rfl h)

def weighsR (r : Rec) : Bool := decide (FloatKind.f64.format.order r.weight r.weight = some Ordering.eq) && decide (0 ≤ orderF r.weight 0)
theorem w123 (r : Rec) (Q : Ex → Slots → LH → Prop) (hQ : ∀ σ H, Slots.get σ 2 = .c (.bool (weighsR r)) → Q .ret σ H) : rnC Try.prog b123 Q [(0, .c (Rec.cv r))] [] := by
  unfold b123
  simp only [go_sem, ↓reduceIte, Nat.reduceEqDiff, Nat.reduceMul, Nat.reduceAdd, Nat.reduceDiv, Nat.reduceSub, Nat.reduceLT, Nat.reduceLeDiff, Int.reduceLE, Int.reduceLT, Int.reduceToNat, Int.reduceEq]
  repeat (refine ⟨by (first | omega | (intro h1 h2; exact ⟨h1, h2⟩) | (intro h1; omega) | (intro h1; exact h1) | trivial), ?_⟩)
  refine callK_1 _ (fun _ => cw132 _ _) (by simp only [go_sem, ↓reduceIte, Nat.reduceEqDiff, Nat.reduceMul, Nat.reduceAdd, Nat.reduceDiv, Nat.reduceSub, Nat.reduceLT, Nat.reduceLeDiff, Int.reduceLE, Int.reduceLT, Int.reduceToNat, Int.reduceEq]) rfl rfl ?_
  simp only [go_sem, ↓reduceIte, Nat.reduceEqDiff, Nat.reduceMul, Nat.reduceAdd, Nat.reduceDiv, Nat.reduceSub, Nat.reduceLT, Nat.reduceLeDiff, Int.reduceLE, Int.reduceLT, Int.reduceToNat, Int.reduceEq]
  repeat (refine ⟨by (first | omega | (intro h1 h2; exact ⟨h1, h2⟩) | (intro h1; omega) | (intro h1; exact h1) | trivial), ?_⟩)
  apply hQ
  all_goals simp only [go_sem, ↓reduceIte, Nat.reduceEqDiff, Nat.reduceMul, Nat.reduceAdd, Nat.reduceDiv, Nat.reduceSub, Nat.reduceLT, Nat.reduceLeDiff, Int.reduceLE, Int.reduceLT, Int.reduceToNat, Int.reduceEq, weighsR]
theorem cw123 (r : Rec) : CW Try.prog 123 [.cv (Rec.cv r)] ⟨[.cv (.bool (weighsR r))], []⟩ :=
  top123 rfl rfl [] trivial (w123 r _ fun σ H h => ret1 rfl h)
theorem w129 (l : List Int) (hn : l.length < 9223372036854775808) (Q : Ex → Slots → LH → Prop) (hQ : ∀ σ H, Slots.get σ 2 = .c (.bool (l.all valid)) → Q .ret σ H) : rnC Try.prog b129 Q [(0, .c (.sl 1 (runes l)))] [] := by
  unfold b129
  simp only [go_sem, ↓reduceIte, Nat.reduceEqDiff, Nat.reduceMul, Nat.reduceAdd, Nat.reduceDiv, Nat.reduceSub, Nat.reduceLT, Nat.reduceLeDiff, Int.reduceLE, Int.reduceLT, Int.reduceToNat, Int.reduceEq]
  refine loopR.by (α := Nat) (fun i => [(0, .c (.sl 1 (runes l))), (3, .c (.int .i64 i))]) (fun i => []) (fun i => l.length - i) (fun i => i ≤ l.length ∧ ((l.drop i).all valid = l.all valid)) 0 ⟨Nat.zero_le _, rfl⟩ ?_ ?_
  · intro Y hY
    simp only [go_sem, ↓reduceIte, Nat.reduceEqDiff, Nat.reduceMul, Nat.reduceAdd, Nat.reduceDiv, Nat.reduceSub, Nat.reduceLT, Nat.reduceLeDiff, Int.reduceLE, Int.reduceLT, Int.reduceToNat, Int.reduceEq, n129_0]
    exact hY
  intro i hk Y hY
  unfold l129_0
  rcases Nat.lt_or_ge i (l.length) with hlt | hge
  · obtain ⟨c, e, hm, hd⟩ := runes_at hlt
    have hf := hk.2
    rw [hd, List.all_cons] at hf
    simp only [go_sem, ↓reduceIte, Nat.reduceEqDiff, Nat.reduceMul, Nat.reduceAdd, Nat.reduceDiv, Nat.reduceSub, Nat.reduceLT, Nat.reduceLeDiff, Int.reduceLE, Int.reduceLT, Int.reduceToNat, Int.reduceEq, n129_0, e]
    refine ⟨fun _ => ⟨by omega, ?_⟩, fun h => by omega⟩
    refine callK_1 _ (fun _ => cw115 _) (by simp only [go_sem, ↓reduceIte, Nat.reduceEqDiff, Nat.reduceMul, Nat.reduceAdd, Nat.reduceDiv, Nat.reduceSub, Nat.reduceLT, Nat.reduceLeDiff, Int.reduceLE, Int.reduceLT, Int.reduceToNat, Int.reduceEq]) rfl rfl ?_
    simp only [go_sem, ↓reduceIte, Nat.reduceEqDiff, Nat.reduceMul, Nat.reduceAdd, Nat.reduceDiv, Nat.reduceSub, Nat.reduceLT, Nat.reduceLeDiff, Int.reduceLE, Int.reduceLT, Int.reduceToNat, Int.reduceEq]
    repeat (refine ⟨by (first | omega | (intro h1 h2; exact ⟨h1, h2⟩) | (intro h1; omega) | (intro h1; exact h1) | trivial), ?_⟩)
    rw [succ64 hlt hn]
    refine ⟨fun h1 => hQ _ _ ?_, fun h1 => hY (i + 1) ⟨hlt, ?_⟩ (by omega)⟩
    · simp only [go_sem, ↓reduceIte, Nat.reduceEqDiff, Nat.reduceMul, Nat.reduceAdd, Nat.reduceDiv, Nat.reduceSub, Nat.reduceLT, Nat.reduceLeDiff, Int.reduceLE, Int.reduceLT, Int.reduceToNat, Int.reduceEq, ← hf, h1, Bool.false_and]
    · rw [← hf, h1, Bool.true_and]
  · simp only [go_sem, ↓reduceIte, Nat.reduceEqDiff, Nat.reduceMul, Nat.reduceAdd, Nat.reduceDiv, Nat.reduceSub, Nat.reduceLT, Nat.reduceLeDiff, Int.reduceLE, Int.reduceLT, Int.reduceToNat, Int.reduceEq, n129_0]
    refine ⟨fun h => by omega, fun _ => hQ _ _ ?_⟩
    have : i = l.length := by omega
    subst this
    have hf := hk.2
    rw [List.drop_length, List.all_nil] at hf
    simp only [go_sem, ↓reduceIte, Nat.reduceEqDiff, Nat.reduceMul, Nat.reduceAdd, Nat.reduceDiv, Nat.reduceSub, Nat.reduceLT, Nat.reduceLeDiff, Int.reduceLE, Int.reduceLT, Int.reduceToNat, Int.reduceEq, ← hf]
theorem cw129 (l : List Int) (hn : l.length < 9223372036854775808) : CW Try.prog 129 [.cv (.sl 1 (runes l))] ⟨[.cv (.bool (l.all valid))], []⟩ :=
  top129 rfl rfl [] trivial (w129 l hn _ fun σ H h => ret1 rfl h)
theorem w20 (a b : List Int) (ha : a.length < 9223372036854775808) (hb : b.length < 9223372036854775808) (Q : Ex → Slots → LH → Prop) (hQ : ∀ σ H, Slots.get σ 4 = .c (.bool ((decide (a = b)))) → Q .ret σ H) : rnC Try.prog b20 Q [(0, .c (.sl 1 (runes a))), (1, .c (.sl 1 (runes b)))] [] := by
  unfold b20
  simp only [go_sem, ↓reduceIte, Nat.reduceEqDiff, Nat.reduceMul, Nat.reduceAdd, Nat.reduceDiv, Nat.reduceSub, Nat.reduceLT, Nat.reduceLeDiff, Int.reduceLE, Int.reduceLT, Int.reduceToNat, Int.reduceEq]
  refine ⟨fun h => ?_, fun h => ?_⟩
  · apply hQ
    all_goals simp only [go_sem, ↓reduceIte, Nat.reduceEqDiff, Nat.reduceMul, Nat.reduceAdd, Nat.reduceDiv, Nat.reduceSub, Nat.reduceLT, Nat.reduceLeDiff, Int.reduceLE, Int.reduceLT, Int.reduceToNat, Int.reduceEq]
    have : ¬ a = b := fun e => h (by rw [e])
    simp [this]
  refine loopR.by (α := Nat) (fun i => [(0, .c (.sl 1 (runes a))), (1, .c (.sl 1 (runes b))), (5, .c (.int .i64 i))]) (fun i => []) (fun i => a.length - i) (fun i => i ≤ a.length ∧ ((decide (a.drop i = b.drop i)) = decide (a = b))) 0 ⟨Nat.zero_le _, by simp⟩ ?_ ?_
  · intro Y hY
    simp only [go_sem, ↓reduceIte, Nat.reduceEqDiff, Nat.reduceMul, Nat.reduceAdd, Nat.reduceDiv, Nat.reduceSub, Nat.reduceLT, Nat.reduceLeDiff, Int.reduceLE, Int.reduceLT, Int.reduceToNat, Int.reduceEq, n20_0]
    exact hY
  intro i hk Y hY
  unfold l20_0
  rcases Nat.lt_or_ge i (a.length) with hlt | hge
  · have hlb : i < b.length := by omega
    obtain ⟨c, e, hm, hd⟩ := runes_at hlt
    obtain ⟨c', e', hm', hd'⟩ := runes_at hlb
    have hf := hk.2
    rw [hd, hd'] at hf
    simp only [go_sem, ↓reduceIte, Nat.reduceEqDiff, Nat.reduceMul, Nat.reduceAdd, Nat.reduceDiv, Nat.reduceSub, Nat.reduceLT, Nat.reduceLeDiff, Int.reduceLE, Int.reduceLT, Int.reduceToNat, Int.reduceEq, n20_0, e, e']
    refine ⟨fun _ => ⟨by omega, by omega, ?_⟩, fun h => by omega⟩
    rw [succ64 hlt ha]
    refine ⟨fun h1 => hQ _ _ ?_, fun h1 => hY (i + 1) ⟨hlt, ?_⟩ (by omega)⟩
    · simp only [go_sem, ↓reduceIte, Nat.reduceEqDiff, Nat.reduceMul, Nat.reduceAdd, Nat.reduceDiv, Nat.reduceSub, Nat.reduceLT, Nat.reduceLeDiff, Int.reduceLE, Int.reduceLT, Int.reduceToNat, Int.reduceEq, ← hf]
      simp [h1]
    · rw [← hf]
      simp [h1]
  · simp only [go_sem, ↓reduceIte, Nat.reduceEqDiff, Nat.reduceMul, Nat.reduceAdd, Nat.reduceDiv, Nat.reduceSub, Nat.reduceLT, Nat.reduceLeDiff, Int.reduceLE, Int.reduceLT, Int.reduceToNat, Int.reduceEq, n20_0]
    refine ⟨fun h => by omega, fun _ => hQ _ _ ?_⟩
    have h1 : i = a.length := by omega
    have h2 : i = b.length := by omega
    have hf := hk.2
    rw [List.drop_eq_nil_of_le (by omega), List.drop_eq_nil_of_le (by omega)] at hf
    simp only [go_sem, ↓reduceIte, Nat.reduceEqDiff, Nat.reduceMul, Nat.reduceAdd, Nat.reduceDiv, Nat.reduceSub, Nat.reduceLT, Nat.reduceLeDiff, Int.reduceLE, Int.reduceLT, Int.reduceToNat, Int.reduceEq]
    rw [← hf]; rfl
theorem cw20 (a b : List Int) (ha : a.length < 9223372036854775808) (hb : b.length < 9223372036854775808) : CW Try.prog 20 [.cv (.sl 1 (runes a)), .cv (.sl 1 (runes b))] ⟨[.cv (.bool ((decide (a = b))))], []⟩ :=
  top20 rfl rfl [] trivial (w20 a b ha hb _ fun σ H h => ret1 rfl h)
def listR (x : List Int) (least most : Int) : Bool := decide (least ≤ x.length) && decide ((x.length : Int) ≤ most) && x.all valid
theorem w116 (x : List Int) (least most : Int) (hn : x.length < 9223372036854775808) (Q : Ex → Slots → LH → Prop) (hQ : ∀ σ H, Slots.get σ 6 = .c (.bool (listR x least most)) → Q .ret σ H) : rnC Try.prog b116 Q [(0, .c (.sl 1 (runes x))), (1, .c (.int .i64 least)), (2, .c (.int .i64 most))] [] := by
  unfold b116
  simp only [go_sem, ↓reduceIte, Nat.reduceEqDiff, Nat.reduceMul, Nat.reduceAdd, Nat.reduceDiv, Nat.reduceSub, Nat.reduceLT, Nat.reduceLeDiff, Int.reduceLE, Int.reduceLT, Int.reduceToNat, Int.reduceEq]
  repeat (refine ⟨by (first | omega | (intro h1 h2; exact ⟨h1, h2⟩) | (intro h1; omega) | (intro h1; exact h1) | trivial), ?_⟩)
  refine callK_1 _ (fun _ => cw129 x hn) (by simp only [go_sem, ↓reduceIte, Nat.reduceEqDiff, Nat.reduceMul, Nat.reduceAdd, Nat.reduceDiv, Nat.reduceSub, Nat.reduceLT, Nat.reduceLeDiff, Int.reduceLE, Int.reduceLT, Int.reduceToNat, Int.reduceEq]) rfl rfl ?_
  simp only [go_sem, ↓reduceIte, Nat.reduceEqDiff, Nat.reduceMul, Nat.reduceAdd, Nat.reduceDiv, Nat.reduceSub, Nat.reduceLT, Nat.reduceLeDiff, Int.reduceLE, Int.reduceLT, Int.reduceToNat, Int.reduceEq]
  repeat (refine ⟨by (first | omega | (intro h1 h2; exact ⟨h1, h2⟩) | (intro h1; omega) | (intro h1; exact h1) | trivial), ?_⟩)
  apply hQ
  all_goals simp only [go_sem, ↓reduceIte, Nat.reduceEqDiff, Nat.reduceMul, Nat.reduceAdd, Nat.reduceDiv, Nat.reduceSub, Nat.reduceLT, Nat.reduceLeDiff, Int.reduceLE, Int.reduceLT, Int.reduceToNat, Int.reduceEq, listR]
theorem cw116 (x : List Int) (least most : Int) (hn : x.length < 9223372036854775808) : CW Try.prog 116 [.cv (.sl 1 (runes x)), .cv (.int .i64 least), .cv (.int .i64 most)] ⟨[.cv (.bool (listR x least most))], []⟩ :=
  top116 rfl rfl [] trivial (w116 x least most hn _ fun σ H h => ret1 rfl h)
def speaksF (r : Rec) (c : Int) : Bool :=
  !decide (r.kind = 15) && decide (0 < stepR r) && decide (0 ≤ c) && decide (c ≤ 1114111) && decide (r.lo ≤ c) && decide (c ≤ r.hi) &&
    decide ((IntKind.u64.wrap (IntKind.u64.wrap c - IntKind.u64.wrap r.lo)).tmod (IntKind.u64.wrap (stepR r)) = 0)
theorem w68 (r : Rec) (c : Int) (hr : r.ok) (Q : Ex → Slots → LH → Prop) (hQ : ∀ σ H, Slots.get σ 4 = .c (.bool (speaksF r c)) → Q .ret σ H) : rnC Try.prog b68 Q [(0, .c (Rec.cv r)), (1, .c (.int .i64 c))] [] := by
  unfold b68
  have hn := hr.2.2.2.1
  unfold i64ok at hn
  simp only [go_sem, ↓reduceIte, Nat.reduceEqDiff, Nat.reduceMul, Nat.reduceAdd, Nat.reduceDiv, Nat.reduceSub, Nat.reduceLT, Nat.reduceLeDiff, Int.reduceLE, Int.reduceLT, Int.reduceToNat, Int.reduceEq]
  refine callK_1 _ (fun _ => cw107 _) (by simp only [go_sem, ↓reduceIte, Nat.reduceEqDiff, Nat.reduceMul, Nat.reduceAdd, Nat.reduceDiv, Nat.reduceSub, Nat.reduceLT, Nat.reduceLeDiff, Int.reduceLE, Int.reduceLT, Int.reduceToNat, Int.reduceEq]) rfl rfl ?_
  simp only [go_sem, ↓reduceIte, Nat.reduceEqDiff, Nat.reduceMul, Nat.reduceAdd, Nat.reduceDiv, Nat.reduceSub, Nat.reduceLT, Nat.reduceLeDiff, Int.reduceLE, Int.reduceLT, Int.reduceToNat, Int.reduceEq]
  repeat (refine ⟨by (first | omega | (intro h1 h2; exact ⟨h1, h2⟩) | (intro h1; omega) | (intro h1; exact h1) | trivial), ?_⟩)
  refine ⟨fun h => ?_, hQ _ _ ?_⟩
  · have : stepR r ≤ 9223372036854775807 := by unfold stepR; (repeat' split) <;> omega
    rw [wrap_u64]; omega
  · simp only [go_sem, ↓reduceIte, Nat.reduceEqDiff, Nat.reduceMul, Nat.reduceAdd, Nat.reduceDiv, Nat.reduceSub, Nat.reduceLT, Nat.reduceLeDiff, Int.reduceLE, Int.reduceLT, Int.reduceToNat, Int.reduceEq, speaksF]
    rw [Bool.beq_eq_decide_eq]
theorem cw68 (r : Rec) (c : Int) (hr : r.ok) : CW Try.prog 68 [.cv (Rec.cv r), .cv (.int .i64 c)] ⟨[.cv (.bool (speaksF r c))], []⟩ :=
  top68 rfl rfl [] trivial (w68 r c hr _ fun σ H h => ret1 rfl h)
end Go.Proofs.Ytcpdnpaedkcebaa.V
