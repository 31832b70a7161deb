/- Contracts: the reference's Right, clash, Check. -/
import Derived.Test.YtcpdnpaedkcebaaXb
import Derived.Test.YtcpdnpaedkcebaaXc
namespace Go.Proofs.Ytcpdnpaedkcebaa.V
open Go Go.RowKit
set_option linter.unusedVariables false
set_option linter.unusedSimpArgs false
set_option maxRecDepth 100000
/- endonym/endonymref6.Right -/
def b72 : IC := (.seq (.reg [⟨(some 1), 1, none, .box (.t 0)⟩,
  ⟨(some 2), 0, none, .mv (.c (.int .i64 0))⟩]) (.seq (.seq (.reg [⟨(some 7), 0, none, .fa (.t 1) 0⟩,
  ⟨(some 8), 0, none, .ld (.t 7) none⟩,
  ⟨(some 9), 2, none, .call (.c (.fn 67)) [((.t 8), .plain)]⟩,
  ⟨(some 10), 0, none, .bin .eql (.t 9) (.c (.int .i64 0))⟩]) (.cond (.t 10) (.seq (.reg [⟨(some 2), 0, none, .mv (.c (.int .i64 60))⟩]) .ret) .skip)) (.seq (.seq (.reg [⟨(some 11), 0, none, .fa (.t 1) 0⟩,
  ⟨(some 12), 0, none, .ld (.t 11) none⟩,
  ⟨(some 13), 0, none, .bin .eql (.t 12) (.c (.int .i64 15))⟩]) (.cond (.t 13) (.seq (.seq (.reg [⟨(some 14), 0, none, .fa (.t 1) 1⟩,
  ⟨(some 15), 0, none, .ld (.t 14) none⟩,
  ⟨(some 16), 0, none, .bin .eql (.t 15) (.c (.int .i64 0))⟩,
  ⟨(some 17), 0, none, .mv (.t 16)⟩,
  ⟨(some 18), 0, (some (17, true)), .fa (.t 1) 2⟩,
  ⟨(some 19), 0, (some (17, true)), .ld (.t 18) none⟩,
  ⟨(some 20), 0, (some (17, true)), .bin .eql (.t 19) (.c (.int .i64 0))⟩,
  ⟨(some 21), 0, none, .pick (.t 17) (.t 20) (.c (.bool false))⟩,
  ⟨(some 22), 0, none, .mv (.t 21)⟩,
  ⟨(some 23), 0, (some (22, true)), .ld (.t 1) (some 8)⟩,
  ⟨(some 24), 12, (some (22, true)), .call (.c (.fn 112)) [((.t 23), .plain), ((.c (.bool false)), .plain), ((.c (.bool false)), .plain), ((.c (.bool true)), .plain), ((.c (.bool true)), .plain), ((.c (.bool true)), .plain)]⟩,
  ⟨(some 25), 0, none, .pick (.t 22) (.t 24) (.c (.bool false))⟩,
  ⟨(some 26), 0, none, .mv (.t 25)⟩,
  ⟨(some 27), 0, (some (26, true)), .fa (.t 1) 5⟩,
  ⟨(some 28), 0, (some (26, true)), .ld (.t 27) none⟩,
  ⟨(some 29), 22, (some (26, true)), .call (.c (.fn 113)) [((.t 28), .plain)]⟩,
  ⟨(some 30), 0, none, .pick (.t 26) (.t 29) (.c (.bool false))⟩,
  ⟨(some 31), 0, none, .mv (.t 30)⟩,
  ⟨(some 32), 0, (some (31, true)), .fa (.t 1) 6⟩,
  ⟨(some 33), 0, (some (31, true)), .ld (.t 32) none⟩,
  ⟨(some 34), 32, (some (31, true)), .call (.c (.fn 113)) [((.t 33), .plain)]⟩,
  ⟨(some 35), 0, none, .pick (.t 31) (.t 34) (.c (.bool false))⟩,
  ⟨(some 36), 0, none, .mv (.t 35)⟩,
  ⟨(some 37), 0, (some (36, true)), .fa (.t 1) 5⟩,
  ⟨(some 38), 0, (some (36, true)), .ld (.t 37) none⟩,
  ⟨(some 39), 0, (some (36, true)), .fa (.t 1) 6⟩,
  ⟨(some 40), 0, (some (36, true)), .ld (.t 39) none⟩,
  ⟨(some 41), 0, (some (36, true)), .bin .neq (.t 38) (.t 40)⟩,
  ⟨(some 42), 0, none, .pick (.t 36) (.t 41) (.c (.bool false))⟩,
  ⟨(some 43), 0, none, .mv (.t 42)⟩,
  ⟨(some 44), 0, (some (43, true)), .fa (.t 1) 7⟩,
  ⟨(some 45), 0, (some (43, true)), .ld (.t 44) none⟩,
  ⟨(some 46), 42, (some (43, true)), .call (.c (.fn 114)) [((.t 45), .plain)]⟩,
  ⟨(some 47), 0, none, .pick (.t 43) (.t 46) (.c (.bool false))⟩]) (.cond (.t 47) (.seq (.reg [⟨(some 2), 0, none, .mv (.c (.int .i64 0))⟩]) .ret) .skip)) (.seq (.reg [⟨(some 2), 0, none, .mv (.c (.int .i64 61))⟩]) .ret)) .skip)) (.seq (.reg [⟨(some 48), 0, none, .fa (.t 1) 1⟩,
  ⟨(some 49), 0, none, .ld (.t 48) none⟩,
  ⟨(some 50), 0, none, .bin .geq (.t 49) (.c (.int .i64 0))⟩,
  ⟨(some 51), 0, none, .mv (.t 50)⟩,
  ⟨(some 52), 0, (some (51, true)), .fa (.t 1) 1⟩,
  ⟨(some 53), 0, (some (51, true)), .ld (.t 52) none⟩,
  ⟨(some 54), 0, (some (51, true)), .fa (.t 1) 2⟩,
  ⟨(some 55), 0, (some (51, true)), .ld (.t 54) none⟩,
  ⟨(some 56), 0, (some (51, true)), .bin .leq (.t 53) (.t 55)⟩,
  ⟨(some 57), 0, none, .pick (.t 51) (.t 56) (.c (.bool false))⟩,
  ⟨(some 58), 0, none, .mv (.t 57)⟩,
  ⟨(some 59), 0, (some (58, true)), .fa (.t 1) 2⟩,
  ⟨(some 60), 0, (some (58, true)), .ld (.t 59) none⟩,
  ⟨(some 61), 0, (some (58, true)), .bin .leq (.t 60) (.c (.int .i64 1114111))⟩,
  ⟨(some 62), 0, none, .pick (.t 58) (.t 61) (.c (.bool false))⟩,
  ⟨(some 3), 0, none, .mv (.t 62)⟩]) (.seq (.reg [⟨(some 63), 0, none, .fa (.t 1) 1⟩,
  ⟨(some 64), 0, none, .ld (.t 63) none⟩,
  ⟨(some 65), 0, none, .fa (.t 1) 2⟩,
  ⟨(some 66), 0, none, .ld (.t 65) none⟩,
  ⟨(some 67), 0, none, .bin .eql (.t 64) (.t 66)⟩,
  ⟨(some 68), 0, none, .mv (.t 67)⟩,
  ⟨(some 69), 0, (some (68, true)), .fa (.t 1) 1⟩,
  ⟨(some 70), 0, (some (68, true)), .ld (.t 69) none⟩,
  ⟨(some 71), 0, (some (68, true)), .bin .and (.t 70) (.c (.int .i64 2097151))⟩,
  ⟨(some 72), 0, (some (68, true)), .conv .i32 (.t 71)⟩,
  ⟨(some 73), 52, (some (68, true)), .call (.c (.fn 115)) [((.t 72), .plain)]⟩,
  ⟨(some 74), 0, none, .pick (.t 68) (.t 73) (.c (.bool false))⟩,
  ⟨(some 4), 0, none, .mv (.t 74)⟩]) (.seq (.seq (.reg [⟨(some 75), 0, none, .fa (.t 1) 0⟩,
  ⟨(some 76), 0, none, .ld (.t 75) none⟩]) (.block 0 (.seq (.seq (.reg [⟨(some 88), 0, none, .bin .eql (.t 76) (.c (.int .i64 1))⟩,
  ⟨(some 87), 0, none, .mv (.t 88)⟩]) (.cond (.t 87) .skip (.seq (.reg [⟨(some 89), 0, none, .bin .eql (.t 76) (.c (.int .i64 2))⟩,
  ⟨(some 87), 0, none, .mv (.t 89)⟩]) (.cond (.t 87) .skip (.reg [⟨(some 90), 0, none, .bin .eql (.t 76) (.c (.int .i64 11))⟩,
  ⟨(some 87), 0, none, .mv (.t 90)⟩]))))) (.cond (.t 87) (.reg [⟨(some 91), 0, none, .mv (.t 3)⟩,
  ⟨(some 92), 0, none, .mv (.t 91)⟩,
  ⟨(some 93), 0, (some (92, true)), .ld (.t 1) (some 8)⟩,
  ⟨(some 94), 62, (some (92, true)), .call (.c (.fn 112)) [((.t 93), .plain), ((.c (.bool false)), .plain), ((.c (.bool false)), .plain), ((.c (.bool false)), .plain), ((.c (.bool false)), .plain), ((.c (.bool false)), .plain)]⟩,
  ⟨(some 95), 0, none, .pick (.t 92) (.t 94) (.c (.bool false))⟩,
  ⟨(some 3), 0, none, .mv (.t 95)⟩]) (.seq (.reg [⟨(some 97), 0, none, .bin .eql (.t 76) (.c (.int .i64 3))⟩,
  ⟨(some 96), 0, none, .mv (.t 97)⟩]) (.cond (.t 96) (.reg [⟨(some 98), 0, none, .mv (.t 3)⟩,
  ⟨(some 99), 0, none, .mv (.t 98)⟩,
  ⟨(some 100), 0, (some (99, true)), .ld (.t 1) (some 8)⟩,
  ⟨(some 101), 72, (some (99, true)), .call (.c (.fn 112)) [((.t 100), .plain), ((.c (.bool false)), .plain), ((.c (.bool true)), .plain), ((.c (.bool false)), .plain), ((.c (.bool false)), .plain), ((.c (.bool false)), .plain)]⟩,
  ⟨(some 102), 0, none, .pick (.t 99) (.t 101) (.c (.bool false))⟩,
  ⟨(some 103), 0, none, .mv (.t 102)⟩,
  ⟨(some 104), 0, (some (103, true)), .fa (.t 1) 4⟩,
  ⟨(some 105), 0, (some (103, true)), .ld (.t 104) none⟩,
  ⟨(some 106), 82, (some (103, true)), .call (.c (.fn 116)) [((.t 105), .view 1), ((.c (.int .i64 1)), .plain), ((.c (.int .i64 24)), .plain)]⟩,
  ⟨(some 107), 0, none, .pick (.t 103) (.t 106) (.c (.bool false))⟩,
  ⟨(some 3), 0, none, .mv (.t 107)⟩]) (.seq (.reg [⟨(some 109), 0, none, .bin .eql (.t 76) (.c (.int .i64 4))⟩,
  ⟨(some 108), 0, none, .mv (.t 109)⟩]) (.cond (.t 108) (.seq (.reg [⟨(some 110), 0, none, .mv (.t 3)⟩,
  ⟨(some 111), 0, none, .mv (.t 110)⟩,
  ⟨(some 112), 0, (some (111, true)), .ld (.t 1) (some 8)⟩,
  ⟨(some 113), 92, (some (111, true)), .call (.c (.fn 112)) [((.t 112), .plain), ((.c (.bool true)), .plain), ((.c (.bool true)), .plain), ((.c (.bool false)), .plain), ((.c (.bool false)), .plain), ((.c (.bool false)), .plain)]⟩,
  ⟨(some 114), 0, none, .pick (.t 111) (.t 113) (.c (.bool false))⟩,
  ⟨(some 115), 0, none, .mv (.t 114)⟩,
  ⟨(some 116), 0, (some (115, true)), .fa (.t 1) 3⟩,
  ⟨(some 117), 0, (some (115, true)), .ld (.t 116) none⟩,
  ⟨(some 118), 0, (some (115, true)), .bin .geq (.t 117) (.c (.int .i64 1))⟩,
  ⟨(some 119), 0, none, .pick (.t 115) (.t 118) (.c (.bool false))⟩,
  ⟨(some 120), 0, none, .mv (.t 119)⟩,
  ⟨(some 121), 0, (some (120, true)), .fa (.t 1) 3⟩,
  ⟨(some 122), 0, (some (120, true)), .ld (.t 121) none⟩,
  ⟨(some 123), 0, (some (120, true)), .bin .leq (.t 122) (.c (.int .i64 64))⟩,
  ⟨(some 124), 0, none, .pick (.t 120) (.t 123) (.c (.bool false))⟩,
  ⟨(some 125), 0, none, .mv (.t 124)⟩,
  ⟨(some 126), 0, (some (125, true)), .fa (.t 1) 4⟩,
  ⟨(some 127), 0, (some (125, true)), .ld (.t 126) none⟩,
  ⟨(some 128), 102, (some (125, true)), .call (.c (.fn 116)) [((.t 127), .view 1), ((.c (.int .i64 1)), .plain), ((.c (.int .i64 1)), .plain)]⟩,
  ⟨(some 129), 0, none, .pick (.t 125) (.t 128) (.c (.bool false))⟩,
  ⟨(some 3), 0, none, .mv (.t 129)⟩]) (.seq (.reg [⟨(some 130), 0, none, .mv (.t 3)⟩]) (.cond (.t 130) (.seq (.reg [⟨(some 131), 0, none, .fa (.t 1) 4⟩,
  ⟨(some 132), 0, none, .ld (.t 131) none⟩,
  ⟨(some 133), 0, none, .ia (.t 132) (.c (.int .i64 0)) 1⟩,
  ⟨(some 134), 0, none, .ld (.t 133) none⟩,
  ⟨(some 135), 0, none, .conv .i64 (.t 134)⟩,
  ⟨(some 5), 0, none, .mv (.t 135)⟩]) (.seq (.reg [⟨(some 136), 0, none, .mv (.t 5)⟩,
  ⟨(some 137), 0, none, .fa (.t 1) 2⟩,
  ⟨(some 138), 0, none, .ld (.t 137) none⟩,
  ⟨(some 139), 0, none, .bin .add (.t 136) (.t 138)⟩,
  ⟨(some 140), 0, none, .fa (.t 1) 1⟩,
  ⟨(some 141), 0, none, .ld (.t 140) none⟩,
  ⟨(some 142), 0, none, .bin .sub (.t 139) (.t 141)⟩,
  ⟨(some 6), 0, none, .mv (.t 142)⟩]) (.reg [⟨(some 143), 0, none, .mv (.t 6)⟩,
  ⟨(some 144), 0, none, .bin .leq (.t 143) (.c (.int .i64 1114111))⟩,
  ⟨(some 145), 0, none, .mv (.t 144)⟩,
  ⟨(some 146), 0, (some (145, true)), .mv (.t 6)⟩,
  ⟨(some 147), 0, (some (145, true)), .bin .lss (.t 146) (.c (.int .i64 55296))⟩,
  ⟨(some 148), 0, (some (145, true)), .mv (.t 147)⟩,
  ⟨(some 149), 0, (some (148, false)), .mv (.t 5)⟩,
  ⟨(some 150), 0, (some (148, false)), .bin .gtr (.t 149) (.c (.int .i64 57343))⟩,
  ⟨(some 151), 0, (some (145, true)), .pick (.t 148) (.c (.bool true)) (.t 150)⟩,
  ⟨(some 152), 0, none, .pick (.t 145) (.t 151) (.c (.bool false))⟩,
  ⟨(some 3), 0, none, .mv (.t 152)⟩]))) .skip))) (.seq (.reg [⟨(some 154), 0, none, .bin .eql (.t 76) (.c (.int .i64 5))⟩,
  ⟨(some 153), 0, none, .mv (.t 154)⟩]) (.cond (.t 153) (.reg [⟨(some 155), 0, none, .mv (.t 3)⟩,
  ⟨(some 156), 0, none, .mv (.t 155)⟩,
  ⟨(some 157), 0, (some (156, true)), .mv (.t 4)⟩,
  ⟨(some 158), 0, none, .pick (.t 156) (.t 157) (.c (.bool false))⟩,
  ⟨(some 159), 0, none, .mv (.t 158)⟩,
  ⟨(some 160), 0, (some (159, true)), .ld (.t 1) (some 8)⟩,
  ⟨(some 161), 112, (some (159, true)), .call (.c (.fn 112)) [((.t 160), .plain), ((.c (.bool false)), .plain), ((.c (.bool true)), .plain), ((.c (.bool false)), .plain), ((.c (.bool false)), .plain), ((.c (.bool false)), .plain)]⟩,
  ⟨(some 162), 0, none, .pick (.t 159) (.t 161) (.c (.bool false))⟩,
  ⟨(some 163), 0, none, .mv (.t 162)⟩,
  ⟨(some 164), 0, (some (163, true)), .fa (.t 1) 4⟩,
  ⟨(some 165), 0, (some (163, true)), .ld (.t 164) none⟩,
  ⟨(some 166), 122, (some (163, true)), .call (.c (.fn 116)) [((.t 165), .view 1), ((.c (.int .i64 0)), .plain), ((.c (.int .i64 24)), .plain)]⟩,
  ⟨(some 167), 0, none, .pick (.t 163) (.t 166) (.c (.bool false))⟩,
  ⟨(some 3), 0, none, .mv (.t 167)⟩]) (.seq (.reg [⟨(some 169), 0, none, .bin .eql (.t 76) (.c (.int .i64 13))⟩,
  ⟨(some 168), 0, none, .mv (.t 169)⟩]) (.cond (.t 168) (.reg [⟨(some 170), 0, none, .mv (.t 3)⟩,
  ⟨(some 171), 0, none, .mv (.t 170)⟩,
  ⟨(some 172), 0, (some (171, true)), .mv (.t 4)⟩,
  ⟨(some 173), 0, none, .pick (.t 171) (.t 172) (.c (.bool false))⟩,
  ⟨(some 174), 0, none, .mv (.t 173)⟩,
  ⟨(some 175), 0, (some (174, true)), .ld (.t 1) (some 8)⟩,
  ⟨(some 176), 132, (some (174, true)), .call (.c (.fn 112)) [((.t 175), .plain), ((.c (.bool false)), .plain), ((.c (.bool true)), .plain), ((.c (.bool false)), .plain), ((.c (.bool false)), .plain), ((.c (.bool false)), .plain)]⟩,
  ⟨(some 177), 0, none, .pick (.t 174) (.t 176) (.c (.bool false))⟩,
  ⟨(some 178), 0, none, .mv (.t 177)⟩,
  ⟨(some 179), 0, (some (178, true)), .fa (.t 1) 4⟩,
  ⟨(some 180), 0, (some (178, true)), .ld (.t 179) none⟩,
  ⟨(some 181), 142, (some (178, true)), .call (.c (.fn 116)) [((.t 180), .view 1), ((.c (.int .i64 1)), .plain), ((.c (.int .i64 24)), .plain)]⟩,
  ⟨(some 182), 0, none, .pick (.t 178) (.t 181) (.c (.bool false))⟩,
  ⟨(some 3), 0, none, .mv (.t 182)⟩]) (.seq (.reg [⟨(some 184), 0, none, .bin .eql (.t 76) (.c (.int .i64 6))⟩,
  ⟨(some 183), 0, none, .mv (.t 184)⟩]) (.cond (.t 183) (.reg [⟨(some 185), 0, none, .mv (.t 3)⟩,
  ⟨(some 186), 0, none, .mv (.t 185)⟩,
  ⟨(some 187), 0, (some (186, true)), .ld (.t 1) (some 8)⟩,
  ⟨(some 188), 152, (some (186, true)), .call (.c (.fn 112)) [((.t 187), .plain), ((.c (.bool true)), .plain), ((.c (.bool false)), .plain), ((.c (.bool false)), .plain), ((.c (.bool false)), .plain), ((.c (.bool false)), .plain)]⟩,
  ⟨(some 189), 0, none, .pick (.t 186) (.t 188) (.c (.bool false))⟩,
  ⟨(some 190), 0, none, .mv (.t 189)⟩,
  ⟨(some 191), 0, (some (190, true)), .fa (.t 1) 3⟩,
  ⟨(some 192), 0, (some (190, true)), .ld (.t 191) none⟩,
  ⟨(some 193), 0, (some (190, true)), .bin .geq (.t 192) (.c (.int .i64 1))⟩,
  ⟨(some 194), 0, none, .pick (.t 190) (.t 193) (.c (.bool false))⟩,
  ⟨(some 195), 0, none, .mv (.t 194)⟩,
  ⟨(some 196), 0, (some (195, true)), .fa (.t 1) 3⟩,
  ⟨(some 197), 0, (some (195, true)), .ld (.t 196) none⟩,
  ⟨(some 198), 0, (some (195, true)), .bin .leq (.t 197) (.c (.int .i64 254))⟩,
  ⟨(some 199), 0, none, .pick (.t 195) (.t 198) (.c (.bool false))⟩,
  ⟨(some 3), 0, none, .mv (.t 199)⟩]) (.seq (.reg [⟨(some 201), 0, none, .bin .eql (.t 76) (.c (.int .i64 7))⟩,
  ⟨(some 200), 0, none, .mv (.t 201)⟩]) (.cond (.t 200) (.reg [⟨(some 202), 0, none, .mv (.t 3)⟩,
  ⟨(some 203), 0, none, .mv (.t 202)⟩,
  ⟨(some 204), 0, (some (203, true)), .mv (.t 4)⟩,
  ⟨(some 205), 0, none, .pick (.t 203) (.t 204) (.c (.bool false))⟩,
  ⟨(some 206), 0, none, .mv (.t 205)⟩,
  ⟨(some 207), 0, (some (206, true)), .ld (.t 1) (some 8)⟩,
  ⟨(some 208), 162, (some (206, true)), .call (.c (.fn 112)) [((.t 207), .plain), ((.c (.bool false)), .plain), ((.c (.bool true)), .plain), ((.c (.bool false)), .plain), ((.c (.bool false)), .plain), ((.c (.bool false)), .plain)]⟩,
  ⟨(some 209), 0, none, .pick (.t 206) (.t 208) (.c (.bool false))⟩,
  ⟨(some 210), 0, none, .mv (.t 209)⟩,
  ⟨(some 211), 0, (some (210, true)), .fa (.t 1) 4⟩,
  ⟨(some 212), 0, (some (210, true)), .ld (.t 211) none⟩,
  ⟨(some 213), 172, (some (210, true)), .call (.c (.fn 116)) [((.t 212), .view 1), ((.c (.int .i64 2)), .plain), ((.c (.int .i64 2)), .plain)]⟩,
  ⟨(some 214), 0, none, .pick (.t 210) (.t 213) (.c (.bool false))⟩,
  ⟨(some 3), 0, none, .mv (.t 214)⟩]) (.seq (.reg [⟨(some 216), 0, none, .bin .eql (.t 76) (.c (.int .i64 8))⟩,
  ⟨(some 215), 0, none, .mv (.t 216)⟩]) (.cond (.t 215) (.reg [⟨(some 217), 0, none, .mv (.t 3)⟩,
  ⟨(some 218), 0, none, .mv (.t 217)⟩,
  ⟨(some 219), 0, (some (218, true)), .mv (.t 4)⟩,
  ⟨(some 220), 0, none, .pick (.t 218) (.t 219) (.c (.bool false))⟩,
  ⟨(some 221), 0, none, .mv (.t 220)⟩,
  ⟨(some 222), 0, (some (221, true)), .ld (.t 1) (some 8)⟩,
  ⟨(some 223), 182, (some (221, true)), .call (.c (.fn 112)) [((.t 222), .plain), ((.c (.bool false)), .plain), ((.c (.bool true)), .plain), ((.c (.bool false)), .plain), ((.c (.bool false)), .plain), ((.c (.bool false)), .plain)]⟩,
  ⟨(some 224), 0, none, .pick (.t 221) (.t 223) (.c (.bool false))⟩,
  ⟨(some 225), 0, none, .mv (.t 224)⟩,
  ⟨(some 226), 0, (some (225, true)), .fa (.t 1) 4⟩,
  ⟨(some 227), 0, (some (225, true)), .ld (.t 226) none⟩,
  ⟨(some 228), 192, (some (225, true)), .call (.c (.fn 116)) [((.t 227), .view 1), ((.c (.int .i64 1)), .plain), ((.c (.int .i64 2)), .plain)]⟩,
  ⟨(some 229), 0, none, .pick (.t 225) (.t 228) (.c (.bool false))⟩,
  ⟨(some 3), 0, none, .mv (.t 229)⟩]) (.seq (.reg [⟨(some 231), 0, none, .bin .eql (.t 76) (.c (.int .i64 9))⟩,
  ⟨(some 230), 0, none, .mv (.t 231)⟩]) (.cond (.t 230) (.reg [⟨(some 232), 0, none, .mv (.t 3)⟩,
  ⟨(some 233), 0, none, .mv (.t 232)⟩,
  ⟨(some 234), 0, (some (233, true)), .ld (.t 1) (some 8)⟩,
  ⟨(some 235), 202, (some (233, true)), .call (.c (.fn 112)) [((.t 234), .plain), ((.c (.bool true)), .plain), ((.c (.bool false)), .plain), ((.c (.bool false)), .plain), ((.c (.bool false)), .plain), ((.c (.bool false)), .plain)]⟩,
  ⟨(some 236), 0, none, .pick (.t 233) (.t 235) (.c (.bool false))⟩,
  ⟨(some 237), 0, none, .mv (.t 236)⟩,
  ⟨(some 238), 0, (some (237, true)), .fa (.t 1) 3⟩,
  ⟨(some 239), 0, (some (237, true)), .ld (.t 238) none⟩,
  ⟨(some 240), 0, (some (237, true)), .bin .geq (.t 239) (.c (.int .i64 0))⟩,
  ⟨(some 241), 0, none, .pick (.t 237) (.t 240) (.c (.bool false))⟩,
  ⟨(some 242), 0, none, .mv (.t 241)⟩,
  ⟨(some 243), 0, (some (242, true)), .fa (.t 1) 3⟩,
  ⟨(some 244), 0, (some (242, true)), .ld (.t 243) none⟩,
  ⟨(some 245), 0, (some (242, true)), .bin .leq (.t 244) (.c (.int .i64 10))⟩,
  ⟨(some 246), 0, none, .pick (.t 242) (.t 245) (.c (.bool false))⟩,
  ⟨(some 3), 0, none, .mv (.t 246)⟩]) (.seq (.reg [⟨(some 248), 0, none, .bin .eql (.t 76) (.c (.int .i64 10))⟩,
  ⟨(some 247), 0, none, .mv (.t 248)⟩]) (.cond (.t 247) (.reg [⟨(some 249), 0, none, .mv (.t 3)⟩,
  ⟨(some 250), 0, none, .mv (.t 249)⟩,
  ⟨(some 251), 0, (some (250, true)), .ld (.t 1) (some 8)⟩,
  ⟨(some 252), 212, (some (250, true)), .call (.c (.fn 112)) [((.t 251), .plain), ((.c (.bool true)), .plain), ((.c (.bool false)), .plain), ((.c (.bool false)), .plain), ((.c (.bool false)), .plain), ((.c (.bool false)), .plain)]⟩,
  ⟨(some 253), 0, none, .pick (.t 250) (.t 252) (.c (.bool false))⟩,
  ⟨(some 254), 0, none, .mv (.t 253)⟩,
  ⟨(some 255), 0, (some (254, true)), .fa (.t 1) 3⟩,
  ⟨(some 256), 0, (some (254, true)), .ld (.t 255) none⟩,
  ⟨(some 257), 0, (some (254, true)), .bin .geq (.t 256) (.c (.int .i64 0))⟩,
  ⟨(some 258), 0, none, .pick (.t 254) (.t 257) (.c (.bool false))⟩,
  ⟨(some 259), 0, none, .mv (.t 258)⟩,
  ⟨(some 260), 0, (some (259, true)), .fa (.t 1) 3⟩,
  ⟨(some 261), 0, (some (259, true)), .ld (.t 260) none⟩,
  ⟨(some 262), 0, (some (259, true)), .bin .leq (.t 261) (.c (.int .i64 5))⟩,
  ⟨(some 263), 0, none, .pick (.t 259) (.t 262) (.c (.bool false))⟩,
  ⟨(some 3), 0, none, .mv (.t 263)⟩]) (.seq (.reg [⟨(some 265), 0, none, .bin .eql (.t 76) (.c (.int .i64 12))⟩,
  ⟨(some 264), 0, none, .mv (.t 265)⟩]) (.cond (.t 264) (.reg [⟨(some 266), 0, none, .mv (.t 3)⟩,
  ⟨(some 267), 0, none, .mv (.t 266)⟩,
  ⟨(some 268), 0, (some (267, true)), .ld (.t 1) (some 8)⟩,
  ⟨(some 269), 222, (some (267, true)), .call (.c (.fn 112)) [((.t 268), .plain), ((.c (.bool false)), .plain), ((.c (.bool false)), .plain), ((.c (.bool true)), .plain), ((.c (.bool false)), .plain), ((.c (.bool false)), .plain)]⟩,
  ⟨(some 270), 0, none, .pick (.t 267) (.t 269) (.c (.bool false))⟩,
  ⟨(some 271), 0, none, .mv (.t 270)⟩,
  ⟨(some 272), 0, (some (271, true)), .fa (.t 1) 5⟩,
  ⟨(some 273), 0, (some (271, true)), .ld (.t 272) none⟩,
  ⟨(some 274), 232, (some (271, true)), .call (.c (.fn 113)) [((.t 273), .plain)]⟩,
  ⟨(some 275), 0, none, .pick (.t 271) (.t 274) (.c (.bool false))⟩,
  ⟨(some 3), 0, none, .mv (.t 275)⟩]) (.reg [⟨(some 77), 0, none, .mv (.t 3)⟩,
  ⟨(some 78), 0, none, .mv (.t 77)⟩,
  ⟨(some 79), 0, (some (78, true)), .ld (.t 1) (some 8)⟩,
  ⟨(some 80), 242, (some (78, true)), .call (.c (.fn 112)) [((.t 79), .plain), ((.c (.bool false)), .plain), ((.c (.bool false)), .plain), ((.c (.bool false)), .plain), ((.c (.bool false)), .plain), ((.c (.bool true)), .plain)]⟩,
  ⟨(some 81), 0, none, .pick (.t 78) (.t 80) (.c (.bool false))⟩,
  ⟨(some 82), 0, none, .mv (.t 81)⟩,
  ⟨(some 83), 0, (some (82, true)), .fa (.t 1) 7⟩,
  ⟨(some 84), 0, (some (82, true)), .ld (.t 83) none⟩,
  ⟨(some 85), 252, (some (82, true)), .call (.c (.fn 114)) [((.t 84), .plain)]⟩,
  ⟨(some 86), 0, none, .pick (.t 82) (.t 85) (.c (.bool false))⟩,
  ⟨(some 3), 0, none, .mv (.t 86)⟩]))))))))))))))))))))))))) (.seq (.seq (.reg [⟨(some 276), 0, none, .mv (.t 3)⟩,
  ⟨(some 277), 0, none, .not (.t 276)⟩]) (.cond (.t 277) (.seq (.reg [⟨(some 2), 0, none, .mv (.c (.int .i64 61))⟩]) .ret) .skip)) (.seq (.reg [⟨(some 2), 0, none, .mv (.c (.int .i64 0))⟩]) .ret))))))))
def rs72 : List (Nat × Option Nat × Mode) := [(2, none, .plain)]
theorem chk72 : chkC Try.prog Try.f72.ntmps b72 (Try.f72.body.getD .skip) = true := by decide +kernel
theorem top72 {args : List Arg} {out : Out} (ha : args.length.ble Try.f72.ntmps = true) (h8 : args.length.ble 8 = true) (mss : List (List (Option Nat))) (hb : backOK args out.back)
    (hw : rnC Try.prog b72 (topQ rs72 args mss out) (slotsOf (argsAV argBase args 0) 0) (argsOb argBase args 0)) : CW Try.prog 72 args out :=
  CW.of Try.func72 rs72 mss (by decide +kernel) (by decide +kernel) (by decide +kernel) ha h8 chk72 hb hw
/- endonym/endonymref6.clash -/
def l73_0 : IC := (.seq (.seq (.reg [⟨(some 78), 0, none, .mv (.t 9)⟩,
  ⟨(some 79), 0, none, .bin .lss (.t 78) (.c (.int .i64 64))⟩,
  ⟨(some 80), 0, none, .mv (.t 79)⟩,
  ⟨(some 81), 0, (some (80, true)), .mv (.t 8)⟩,
  ⟨(some 82), 0, (some (80, true)), .mv (.t 6)⟩,
  ⟨(some 83), 0, (some (80, true)), .bin .leq (.t 81) (.t 82)⟩,
  ⟨(some 84), 0, none, .pick (.t 80) (.t 83) (.c (.bool false))⟩]) (.cond (.t 84) .skip (.exit 0))) (.seq (.block 1 (.seq (.seq (.reg [⟨(some 87), 0, none, .ld (.t 3) (some 8)⟩,
  ⟨(some 88), 0, none, .mv (.t 8)⟩,
  ⟨(some 89), 33, none, .call (.c (.fn 68)) [((.t 87), .plain), ((.t 88), .plain)]⟩]) (.cond (.t 89) (.seq (.reg [⟨(some 4), 0, none, .mv (.c (.bool true))⟩]) .ret) .skip)) (.reg [⟨(some 90), 0, none, .mv (.t 8)⟩,
  ⟨(some 91), 0, none, .mv (.t 7)⟩,
  ⟨(some 92), 0, none, .bin .add (.t 90) (.t 91)⟩,
  ⟨(some 8), 0, none, .mv (.t 92)⟩]))) (.reg [⟨(some 85), 0, none, .mv (.t 9)⟩,
  ⟨(some 86), 0, none, .bin .add (.t 85) (.c (.int .i64 1))⟩,
  ⟨(some 9), 0, none, .mv (.t 86)⟩])))
def b73 : IC := (.seq (.reg [⟨(some 2), 1, none, .box (.t 0)⟩,
  ⟨(some 3), 2, none, .box (.t 1)⟩,
  ⟨(some 4), 0, none, .mv (.c (.bool false))⟩]) (.seq (.seq (.draw (.take 0 ⟨(some 10), 0, none, .fa (.t 2) 0⟩ (.take 1 ⟨(some 11), 0, none, .ld (.t 10) none⟩ (.take 3 ⟨(some 13), 0, none, .fa (.t 3) 0⟩ (.take 4 ⟨(some 14), 0, none, .ld (.t 13) none⟩ (.br 2 ⟨(some 12), 3, none, .call (.c (.fn 67)) [((.t 11), .plain)]⟩ [true, true, false, true] (.br 5 ⟨(some 15), 13, none, .call (.c (.fn 67)) [((.t 14), .plain)]⟩ [false, true, true] (.take 6 ⟨(some 16), 0, none, .bin .neq (.t 12) (.t 15)⟩ .done) .no) .no)))))) (.cond (.t 16) (.seq (.reg [⟨(some 4), 0, none, .mv (.c (.bool false))⟩]) .ret) .skip)) (.seq (.seq (.reg [⟨(some 17), 0, none, .fa (.t 2) 0⟩,
  ⟨(some 18), 0, none, .ld (.t 17) none⟩,
  ⟨(some 19), 0, none, .bin .eql (.t 18) (.c (.int .i64 15))⟩]) (.cond (.t 19) (.seq (.reg [⟨(some 20), 0, none, .fa (.t 2) 5⟩,
  ⟨(some 21), 0, none, .ld (.t 20) none⟩,
  ⟨(some 22), 0, none, .fa (.t 3) 5⟩,
  ⟨(some 23), 0, none, .ld (.t 22) none⟩,
  ⟨(some 24), 0, none, .bin .eql (.t 21) (.t 23)⟩,
  ⟨(some 25), 0, none, .mv (.t 24)⟩,
  ⟨(some 26), 0, (some (25, true)), .fa (.t 2) 6⟩,
  ⟨(some 27), 0, (some (25, true)), .ld (.t 26) none⟩,
  ⟨(some 28), 0, (some (25, true)), .fa (.t 3) 6⟩,
  ⟨(some 29), 0, (some (25, true)), .ld (.t 28) none⟩,
  ⟨(some 30), 0, (some (25, true)), .bin .eql (.t 27) (.t 29)⟩,
  ⟨(some 31), 0, none, .pick (.t 25) (.t 30) (.c (.bool false))⟩,
  ⟨(some 32), 0, none, .mv (.t 31)⟩,
  ⟨(some 33), 0, (some (32, false)), .fa (.t 2) 5⟩,
  ⟨(some 34), 0, (some (32, false)), .ld (.t 33) none⟩,
  ⟨(some 35), 0, (some (32, false)), .fa (.t 3) 6⟩,
  ⟨(some 36), 0, (some (32, false)), .ld (.t 35) none⟩,
  ⟨(some 37), 0, (some (32, false)), .bin .eql (.t 34) (.t 36)⟩,
  ⟨(some 38), 0, (some (32, false)), .mv (.t 37)⟩,
  ⟨(some 39), 0, (some (38, true)), .fa (.t 2) 6⟩,
  ⟨(some 40), 0, (some (38, true)), .ld (.t 39) none⟩,
  ⟨(some 41), 0, (some (38, true)), .fa (.t 3) 5⟩,
  ⟨(some 42), 0, (some (38, true)), .ld (.t 41) none⟩,
  ⟨(some 43), 0, (some (38, true)), .bin .eql (.t 40) (.t 42)⟩,
  ⟨(some 44), 0, (some (32, false)), .pick (.t 38) (.t 43) (.c (.bool false))⟩,
  ⟨(some 45), 0, none, .pick (.t 32) (.c (.bool true)) (.t 44)⟩,
  ⟨(some 4), 0, none, .mv (.t 45)⟩]) .ret) .skip)) (.seq (.draw (.take 0 ⟨(some 46), 0, none, .fa (.t 2) 1⟩ (.take 1 ⟨(some 47), 0, none, .ld (.t 46) none⟩ (.take 2 ⟨(some 48), 0, none, .fa (.t 3) 1⟩ (.take 3 ⟨(some 49), 0, none, .ld (.t 48) none⟩ (.take 4 ⟨(some 50), 0, none, .mx (.t 47) (.t 49)⟩ (.take 5 ⟨(some 51), 0, none, .fa (.t 2) 2⟩ (.take 6 ⟨(some 52), 0, none, .ld (.t 51) none⟩ (.take 7 ⟨(some 53), 0, none, .fa (.t 3) 2⟩ (.take 8 ⟨(some 54), 0, none, .ld (.t 53) none⟩ (.take 9 ⟨(some 55), 0, none, .mn (.t 52) (.t 54)⟩ (.take 10 ⟨(some 5), 0, none, .mv (.t 50)⟩ (.take 11 ⟨(some 6), 0, none, .mv (.t 55)⟩ .done))))))))))))) (.seq (.reg [⟨(some 56), 0, none, .ld (.t 2) (some 8)⟩,
  ⟨(some 57), 23, none, .call (.c (.fn 107)) [((.t 56), .plain)]⟩,
  ⟨(some 7), 0, none, .mv (.t 57)⟩]) (.seq (.reg [⟨(some 58), 0, none, .fa (.t 2) 1⟩,
  ⟨(some 59), 0, none, .ld (.t 58) none⟩,
  ⟨(some 8), 0, none, .mv (.t 59)⟩]) (.seq (.seq (.reg [⟨(some 60), 0, none, .mv (.t 5)⟩,
  ⟨(some 61), 0, none, .fa (.t 2) 1⟩,
  ⟨(some 62), 0, none, .ld (.t 61) none⟩,
  ⟨(some 63), 0, none, .bin .gtr (.t 60) (.t 62)⟩]) (.cond (.t 63) (.draw (.take 0 ⟨(some 64), 0, none, .fa (.t 2) 1⟩ (.take 1 ⟨(some 65), 0, none, .ld (.t 64) none⟩ (.take 2 ⟨(some 66), 0, none, .mv (.t 5)⟩ (.take 3 ⟨(some 67), 0, none, .fa (.t 2) 1⟩ (.take 4 ⟨(some 68), 0, none, .ld (.t 67) none⟩ (.take 5 ⟨(some 69), 0, none, .bin .sub (.t 66) (.t 68)⟩ (.take 6 ⟨(some 70), 0, none, .mv (.t 7)⟩ (.take 7 ⟨(some 71), 0, none, .bin .add (.t 69) (.t 70)⟩ (.take 8 ⟨(some 72), 0, none, .bin .sub (.t 71) (.c (.int .i64 1))⟩ (.take 9 ⟨(some 73), 0, none, .mv (.t 7)⟩ (.take 10 ⟨(some 74), 0, none, .bin .quo (.t 72) (.t 73)⟩ (.take 11 ⟨(some 75), 0, none, .mv (.t 7)⟩ (.take 12 ⟨(some 76), 0, none, .bin .mul (.t 74) (.t 75)⟩ (.take 13 ⟨(some 77), 0, none, .bin .add (.t 65) (.t 76)⟩ (.take 14 ⟨(some 8), 0, none, .mv (.t 77)⟩ .done)))))))))))))))) .skip)) (.seq (.seq (.reg [⟨(some 9), 0, none, .mv (.c (.int .i64 0))⟩]) (.block 0 (.loop0 [3, 6, 7, 8, 9] l73_0))) (.seq (.reg [⟨(some 4), 0, none, .mv (.c (.bool false))⟩]) .ret)))))))))
def rs73 : List (Nat × Option Nat × Mode) := [(4, none, .plain)]
theorem chk73 : chkC Try.prog Try.f73.ntmps b73 (Try.f73.body.getD .skip) = true := by decide +kernel
theorem top73 {args : List Arg} {out : Out} (ha : args.length.ble Try.f73.ntmps = true) (h8 : args.length.ble 8 = true) (mss : List (List (Option Nat))) (hb : backOK args out.back)
    (hw : rnC Try.prog b73 (topQ rs73 args mss out) (slotsOf (argsAV argBase args 0) 0) (argsOb argBase args 0)) : CW Try.prog 73 args out :=
  CW.of Try.func73 rs73 mss (by decide +kernel) (by decide +kernel) (by decide +kernel) ha h8 chk73 hb hw
/- endonym/endonymref6.Check -/
def l51_0 : IC := (.seq (.seq (.reg [⟨(some 11), 0, none, .mv (.t 4)⟩,
  ⟨(some 12), 0, none, .mv (.t 0)⟩,
  ⟨(some 13), 0, none, .len false (.t 12)⟩,
  ⟨(some 14), 0, none, .bin .lss (.t 11) (.t 13)⟩]) (.cond (.t 14) .skip (.exit 0))) (.seq (.block 1 (.seq (.reg [⟨(some 17), 0, none, .mv (.t 0)⟩,
  ⟨(some 18), 0, none, .mv (.t 4)⟩,
  ⟨(some 19), 0, none, .ia (.t 17) (.t 18) 8⟩,
  ⟨(some 20), 0, none, .ld (.t 19) (some 8)⟩,
  ⟨(some 21), 1, none, .call (.c (.fn 72)) [((.t 20), .plain)]⟩,
  ⟨(some 5), 0, none, .mv (.t 21)⟩]) (.seq (.reg [⟨(some 22), 0, none, .mv (.t 5)⟩,
  ⟨(some 23), 0, none, .bin .neq (.t 22) (.c (.int .i64 0))⟩]) (.cond (.t 23) (.seq (.reg [⟨(some 24), 0, none, .mv (.t 4)⟩,
  ⟨(some 25), 0, none, .mv (.t 5)⟩,
  ⟨(some 2), 0, none, .mv (.t 24)⟩,
  ⟨(some 3), 0, none, .mv (.t 25)⟩]) .ret) .skip)))) (.reg [⟨(some 15), 0, none, .mv (.t 4)⟩,
  ⟨(some 16), 0, none, .bin .add (.t 15) (.c (.int .i64 1))⟩,
  ⟨(some 4), 0, none, .mv (.t 16)⟩])))
def n51_0 : Norm := ⟨[(0, .plain), (4, .plain)], []⟩
def l51_2 : IC := (.seq (.seq (.reg [⟨(some 32), 0, none, .mv (.t 7)⟩,
  ⟨(some 33), 0, none, .mv (.t 6)⟩,
  ⟨(some 34), 0, none, .bin .lss (.t 32) (.t 33)⟩]) (.cond (.t 34) .skip (.exit 4))) (.seq (.block 5 (.seq (.draw (.take 0 ⟨(some 37), 0, none, .mv (.t 0)⟩ (.take 1 ⟨(some 38), 0, none, .mv (.t 7)⟩ (.take 2 ⟨(some 39), 0, none, .ia (.t 37) (.t 38) 8⟩ (.take 3 ⟨(some 40), 0, none, .ld (.t 39) (some 8)⟩ (.take 4 ⟨(some 41), 0, none, .mv (.t 0)⟩ (.take 5 ⟨(some 42), 0, none, .mv (.t 6)⟩ (.take 6 ⟨(some 43), 0, none, .ia (.t 41) (.t 42) 8⟩ (.take 7 ⟨(some 44), 0, none, .ld (.t 43) (some 8)⟩ (.br 8 ⟨(some 45), 11, none, .call (.c (.fn 73)) [((.t 40), .plain), ((.t 44), .plain)]⟩ [false, true, true, true, false, true, true, true] .done .no)))))))))) (.cond (.t 45) (.seq (.reg [⟨(some 46), 0, none, .mv (.t 6)⟩,
  ⟨(some 2), 0, none, .mv (.t 46)⟩,
  ⟨(some 3), 0, none, .mv (.c (.int .i64 62))⟩]) .ret) .skip))) (.reg [⟨(some 35), 0, none, .mv (.t 7)⟩,
  ⟨(some 36), 0, none, .bin .add (.t 35) (.c (.int .i64 1))⟩,
  ⟨(some 7), 0, none, .mv (.t 36)⟩])))
def n51_2 : Norm := ⟨[(0, .plain), (6, .plain), (7, .plain)], []⟩
def l51_1 : IC := (.seq (.seq (.reg [⟨(some 26), 0, none, .mv (.t 6)⟩,
  ⟨(some 27), 0, none, .mv (.t 0)⟩,
  ⟨(some 28), 0, none, .len false (.t 27)⟩,
  ⟨(some 29), 0, none, .bin .lss (.t 26) (.t 28)⟩]) (.cond (.t 29) .skip (.exit 2))) (.seq (.block 3 (.seq (.reg [⟨(some 7), 0, none, .mv (.c (.int .i64 0))⟩]) (.block 4 (.loop n51_2 l51_2)))) (.reg [⟨(some 30), 0, none, .mv (.t 6)⟩,
  ⟨(some 31), 0, none, .bin .add (.t 30) (.c (.int .i64 1))⟩,
  ⟨(some 6), 0, none, .mv (.t 31)⟩])))
def n51_1 : Norm := ⟨[(0, .plain), (6, .plain)], []⟩
def b51 : IC := (.seq (.reg [⟨(some 2), 0, none, .mv (.c (.int .i64 0))⟩,
  ⟨(some 3), 0, none, .mv (.c (.int .i64 0))⟩]) (.seq (.seq (.reg [⟨(some 8), 0, none, .mv (.t 0)⟩,
  ⟨(some 9), 0, none, .len false (.t 8)⟩,
  ⟨(some 10), 0, none, .bin .gtr (.t 9) (.c (.int .i64 4096))⟩]) (.cond (.t 10) (.seq (.reg [⟨(some 2), 0, none, .mv (.c (.int .i64 0))⟩,
  ⟨(some 3), 0, none, .mv (.c (.int .i64 3))⟩]) .ret) .skip)) (.seq (.seq (.reg [⟨(some 4), 0, none, .mv (.c (.int .i64 0))⟩]) (.block 0 (.loop n51_0 l51_0))) (.seq (.seq (.reg [⟨(some 6), 0, none, .mv (.c (.int .i64 0))⟩]) (.block 2 (.loop n51_1 l51_1))) (.seq (.reg [⟨(some 2), 0, none, .mv (.c (.int .i64 0))⟩,
  ⟨(some 3), 0, none, .mv (.c (.int .i64 0))⟩]) .ret)))))
def rs51 : List (Nat × Option Nat × Mode) := [(2, none, .plain), (3, none, .plain)]
theorem chk51 : chkC Try.prog Try.f51.ntmps b51 (Try.f51.body.getD .skip) = true := by decide +kernel
theorem top51 {args : List Arg} {out : Out} (ha : args.length.ble Try.f51.ntmps = true) (h8 : args.length.ble 8 = true) (mss : List (List (Option Nat))) (hb : backOK args out.back)
    (hw : rnC Try.prog b51 (topQ rs51 args mss out) (slotsOf (argsAV argBase args 0) 0) (argsOb argBase args 0)) : CW Try.prog 51 args out :=
  CW.of Try.func51 rs51 mss (by decide +kernel) (by decide +kernel) (by decide +kernel) ha h8 chk51 hb hw

/-- The span is one. -/
def spanR (r : Rec) : Bool := decide (0 ≤ r.lo) && decide (r.lo ≤ r.hi) && decide (r.hi ≤ 1114111)
def oneF (r : Rec) : Bool := decide (r.lo = r.hi) && valid (IntKind.i32.wrap (bitI .and .i64 r.lo 2097151))
def shiftF (r : Rec) : Bool :=
  match r.to with
  | [a] =>
    let b := IntKind.i64.wrap (IntKind.i64.wrap (IntKind.i64.wrap a + r.hi) - r.lo)
    decide (b ≤ 1114111) && (decide (b < 55296) || decide (57343 < IntKind.i64.wrap a))
  | _ => false
def okF (r : Rec) : Bool :=
  if r.kind = 1 ∨ r.kind = 2 ∨ r.kind = 11 then spanR r && bareR r false false false false false else
  if r.kind = 3 then spanR r && bareR r false true false false false && listR r.to 1 24 else
  if r.kind = 4 then spanR r && bareR r true true false false false && decide (1 ≤ r.n) && decide (r.n ≤ 64) && listR r.to 1 1 && shiftF r else
  if r.kind = 5 then spanR r && oneF r && bareR r false true false false false && listR r.to 0 24 else
  if r.kind = 13 then spanR r && oneF r && bareR r false true false false false && listR r.to 1 24 else
  if r.kind = 6 then spanR r && bareR r true false false false false && decide (1 ≤ r.n) && decide (r.n ≤ 254) else
  if r.kind = 7 then spanR r && oneF r && bareR r false true false false false && listR r.to 2 2 else
  if r.kind = 8 then spanR r && oneF r && bareR r false true false false false && listR r.to 1 2 else
  if r.kind = 9 then spanR r && bareR r true false false false false && decide (0 ≤ r.n) && decide (r.n ≤ 10) else
  if r.kind = 10 then spanR r && bareR r true false false false false && decide (0 ≤ r.n) && decide (r.n ≤ 5) else
  if r.kind = 12 then spanR r && bareR r false false true false false && nameS r.name else
  spanR r && bareR r false false false false true && weightR r.weight
def rightF (r : Rec) : Int :=
  if famK r.kind = 0 then 60 else
  if r.kind = 15 then
    (if decide (r.lo = 0) && decide (r.hi = 0) && bareR r false false true true true && nameS r.name && nameS r.other && !decide (r.name.data.toList = r.other.data.toList) && weightR r.weight then 0 else 61) else
  if okF r then 0 else 61
theorem w72 (r : Rec) (hn : r.to.length < 9223372036854775808) (Q : Ex → Slots → LH → Prop) (hQ : ∀ σ H, Slots.get σ 2 = .c (.int .i64 (rightF r)) → Q .ret σ H) : rnC Try.prog b72 Q [(0, .c (Rec.cv r))] [] := by
  unfold b72
  simp only [go_sem, ↓reduceIte, Nat.reduceEqDiff, Nat.reduceMul, Nat.reduceAdd, Nat.reduceDiv, Nat.reduceSub, Nat.reduceLT, Nat.reduceLeDiff, Int.reduceLE, Int.reduceLT, Int.reduceToNat, Int.reduceEq]
  repeat (refine ⟨by (first | omega | (intro h1 h2; exact ⟨h1, h2⟩) | (intro h1; omega) | (intro h1; exact h1) | trivial), ?_⟩)
  refine callK_1 _ (fun _ => cw67 _) (by simp only [go_sem, ↓reduceIte, Nat.reduceEqDiff, Nat.reduceMul, Nat.reduceAdd, Nat.reduceDiv, Nat.reduceSub, Nat.reduceLT, Nat.reduceLeDiff, Int.reduceLE, Int.reduceLT, Int.reduceToNat, Int.reduceEq]) rfl rfl ?_
  simp only [go_sem, ↓reduceIte, Nat.reduceEqDiff, Nat.reduceMul, Nat.reduceAdd, Nat.reduceDiv, Nat.reduceSub, Nat.reduceLT, Nat.reduceLeDiff, Int.reduceLE, Int.reduceLT, Int.reduceToNat, Int.reduceEq]
  repeat (refine ⟨by (first | omega | (intro h1 h2; exact ⟨h1, h2⟩) | (intro h1; omega) | (intro h1; exact h1) | trivial), ?_⟩)
  refine ⟨fun h0 => ?_, fun h0 => ?_⟩
  · apply hQ
    all_goals simp only [go_sem, ↓reduceIte, Nat.reduceEqDiff, Nat.reduceMul, Nat.reduceAdd, Nat.reduceDiv, Nat.reduceSub, Nat.reduceLT, Nat.reduceLeDiff, Int.reduceLE, Int.reduceLT, Int.reduceToNat, Int.reduceEq, rightF, if_pos h0]
  refine ⟨fun h15 => ?_, fun h15 => ?_⟩
  · repeat (refine ⟨by (first | omega | (intro h1 h2; exact ⟨h1, h2⟩) | (intro h1; omega) | (intro h1; exact h1) | trivial), ?_⟩)
    refine callK_1 _ (fun _ => cw112 r _ _ _ _ _) (by simp only [go_sem, ↓reduceIte, Nat.reduceEqDiff, Nat.reduceMul, Nat.reduceAdd, Nat.reduceDiv, Nat.reduceSub, Nat.reduceLT, Nat.reduceLeDiff, Int.reduceLE, Int.reduceLT, Int.reduceToNat, Int.reduceEq]) rfl rfl ?_
    simp only [go_sem, ↓reduceIte, Nat.reduceEqDiff, Nat.reduceMul, Nat.reduceAdd, Nat.reduceDiv, Nat.reduceSub, Nat.reduceLT, Nat.reduceLeDiff, Int.reduceLE, Int.reduceLT, Int.reduceToNat, Int.reduceEq]
    repeat (refine ⟨by (first | omega | (intro h1 h2; exact ⟨h1, h2⟩) | (intro h1; omega) | (intro h1; exact h1) | trivial), ?_⟩)
    refine callK_1 _ (fun _ => cw113 _) (by simp only [go_sem, ↓reduceIte, Nat.reduceEqDiff, Nat.reduceMul, Nat.reduceAdd, Nat.reduceDiv, Nat.reduceSub, Nat.reduceLT, Nat.reduceLeDiff, Int.reduceLE, Int.reduceLT, Int.reduceToNat, Int.reduceEq]) rfl rfl ?_
    simp only [go_sem, ↓reduceIte, Nat.reduceEqDiff, Nat.reduceMul, Nat.reduceAdd, Nat.reduceDiv, Nat.reduceSub, Nat.reduceLT, Nat.reduceLeDiff, Int.reduceLE, Int.reduceLT, Int.reduceToNat, Int.reduceEq]
    repeat (refine ⟨by (first | omega | (intro h1 h2; exact ⟨h1, h2⟩) | (intro h1; omega) | (intro h1; exact h1) | trivial), ?_⟩)
    refine callK_1 _ (fun _ => cw113 _) (by simp only [go_sem, ↓reduceIte, Nat.reduceEqDiff, Nat.reduceMul, Nat.reduceAdd, Nat.reduceDiv, Nat.reduceSub, Nat.reduceLT, Nat.reduceLeDiff, Int.reduceLE, Int.reduceLT, Int.reduceToNat, Int.reduceEq]) rfl rfl ?_
    simp only [go_sem, ↓reduceIte, Nat.reduceEqDiff, Nat.reduceMul, Nat.reduceAdd, Nat.reduceDiv, Nat.reduceSub, Nat.reduceLT, Nat.reduceLeDiff, Int.reduceLE, Int.reduceLT, Int.reduceToNat, Int.reduceEq]
    repeat (refine ⟨by (first | omega | (intro h1 h2; exact ⟨h1, h2⟩) | (intro h1; omega) | (intro h1; exact h1) | trivial), ?_⟩)
    refine callK_1 _ (fun _ => cw114 _) (by simp only [go_sem, ↓reduceIte, Nat.reduceEqDiff, Nat.reduceMul, Nat.reduceAdd, Nat.reduceDiv, Nat.reduceSub, Nat.reduceLT, Nat.reduceLeDiff, Int.reduceLE, Int.reduceLT, Int.reduceToNat, Int.reduceEq]) rfl rfl ?_
    simp only [go_sem, ↓reduceIte, Nat.reduceEqDiff, Nat.reduceMul, Nat.reduceAdd, Nat.reduceDiv, Nat.reduceSub, Nat.reduceLT, Nat.reduceLeDiff, Int.reduceLE, Int.reduceLT, Int.reduceToNat, Int.reduceEq]
    repeat (refine ⟨by (first | omega | (intro h1 h2; exact ⟨h1, h2⟩) | (intro h1; omega) | (intro h1; exact h1) | trivial), ?_⟩)
    refine ⟨fun hh => ?_, fun hh => ?_⟩
    all_goals
      apply hQ
      all_goals simp only [go_sem, ↓reduceIte, Nat.reduceEqDiff, Nat.reduceMul, Nat.reduceAdd, Nat.reduceDiv, Nat.reduceSub, Nat.reduceLT, Nat.reduceLeDiff, Int.reduceLE, Int.reduceLT, Int.reduceToNat, Int.reduceEq, rightF, if_neg h0, if_pos h15]
      grind
  repeat (refine ⟨by (first | omega | (intro h1 h2; exact ⟨h1, h2⟩) | (intro h1; omega) | (intro h1; exact h1) | trivial), ?_⟩)
  refine callK_1 _ (fun _ => cw115 _) (by simp only [go_sem, ↓reduceIte, Nat.reduceEqDiff, Nat.reduceMul, Nat.reduceAdd, Nat.reduceDiv, Nat.reduceSub, Nat.reduceLT, Nat.reduceLeDiff, Int.reduceLE, Int.reduceLT, Int.reduceToNat, Int.reduceEq]) rfl rfl ?_
  simp only [go_sem, ↓reduceIte, Nat.reduceEqDiff, Nat.reduceMul, Nat.reduceAdd, Nat.reduceDiv, Nat.reduceSub, Nat.reduceLT, Nat.reduceLeDiff, Int.reduceLE, Int.reduceLT, Int.reduceToNat, Int.reduceEq]
  repeat (refine ⟨by (first | omega | (intro h1 h2; exact ⟨h1, h2⟩) | (intro h1; omega) | (intro h1; exact h1) | trivial), ?_⟩)
  refine ⟨fun h1 => ?_, fun h1 => ?_⟩
  · refine callK_1 _ (fun _ => cw112 r _ _ _ _ _) (by simp only [go_sem, ↓reduceIte, Nat.reduceEqDiff, Nat.reduceMul, Nat.reduceAdd, Nat.reduceDiv, Nat.reduceSub, Nat.reduceLT, Nat.reduceLeDiff, Int.reduceLE, Int.reduceLT, Int.reduceToNat, Int.reduceEq]) rfl rfl ?_
    simp only [go_sem, ↓reduceIte, Nat.reduceEqDiff, Nat.reduceMul, Nat.reduceAdd, Nat.reduceDiv, Nat.reduceSub, Nat.reduceLT, Nat.reduceLeDiff, Int.reduceLE, Int.reduceLT, Int.reduceToNat, Int.reduceEq]
    repeat (refine ⟨by (first | omega | (intro h1 h2; exact ⟨h1, h2⟩) | (intro h1; omega) | (intro h1; exact h1) | trivial), ?_⟩)
    refine ⟨fun hh => ?_, fun hh => ?_⟩
    all_goals
      apply hQ
      all_goals simp only [go_sem, ↓reduceIte, Nat.reduceEqDiff, Nat.reduceMul, Nat.reduceAdd, Nat.reduceDiv, Nat.reduceSub, Nat.reduceLT, Nat.reduceLeDiff, Int.reduceLE, Int.reduceLT, Int.reduceToNat, Int.reduceEq, rightF, if_neg h0, if_neg h15]
      simp only [okF, spanR, oneF, h1, true_or, or_true, if_true, Int.reduceEq, or_self, if_false]
      grind
  refine ⟨fun h2 => ?_, fun h2 => ?_⟩
  · refine callK_1 _ (fun _ => cw112 r _ _ _ _ _) (by simp only [go_sem, ↓reduceIte, Nat.reduceEqDiff, Nat.reduceMul, Nat.reduceAdd, Nat.reduceDiv, Nat.reduceSub, Nat.reduceLT, Nat.reduceLeDiff, Int.reduceLE, Int.reduceLT, Int.reduceToNat, Int.reduceEq]) rfl rfl ?_
    simp only [go_sem, ↓reduceIte, Nat.reduceEqDiff, Nat.reduceMul, Nat.reduceAdd, Nat.reduceDiv, Nat.reduceSub, Nat.reduceLT, Nat.reduceLeDiff, Int.reduceLE, Int.reduceLT, Int.reduceToNat, Int.reduceEq]
    repeat (refine ⟨by (first | omega | (intro h1 h2; exact ⟨h1, h2⟩) | (intro h1; omega) | (intro h1; exact h1) | trivial), ?_⟩)
    refine ⟨fun hh => ?_, fun hh => ?_⟩
    all_goals
      apply hQ
      all_goals simp only [go_sem, ↓reduceIte, Nat.reduceEqDiff, Nat.reduceMul, Nat.reduceAdd, Nat.reduceDiv, Nat.reduceSub, Nat.reduceLT, Nat.reduceLeDiff, Int.reduceLE, Int.reduceLT, Int.reduceToNat, Int.reduceEq, rightF, if_neg h0, if_neg h15]
      simp only [okF, spanR, oneF, h2, true_or, or_true, if_true, Int.reduceEq, or_self, if_false]
      grind
  refine ⟨fun h11 => ?_, fun h11 => ?_⟩
  · refine callK_1 _ (fun _ => cw112 r _ _ _ _ _) (by simp only [go_sem, ↓reduceIte, Nat.reduceEqDiff, Nat.reduceMul, Nat.reduceAdd, Nat.reduceDiv, Nat.reduceSub, Nat.reduceLT, Nat.reduceLeDiff, Int.reduceLE, Int.reduceLT, Int.reduceToNat, Int.reduceEq]) rfl rfl ?_
    simp only [go_sem, ↓reduceIte, Nat.reduceEqDiff, Nat.reduceMul, Nat.reduceAdd, Nat.reduceDiv, Nat.reduceSub, Nat.reduceLT, Nat.reduceLeDiff, Int.reduceLE, Int.reduceLT, Int.reduceToNat, Int.reduceEq]
    repeat (refine ⟨by (first | omega | (intro h1 h2; exact ⟨h1, h2⟩) | (intro h1; omega) | (intro h1; exact h1) | trivial), ?_⟩)
    refine ⟨fun hh => ?_, fun hh => ?_⟩
    all_goals
      apply hQ
      all_goals simp only [go_sem, ↓reduceIte, Nat.reduceEqDiff, Nat.reduceMul, Nat.reduceAdd, Nat.reduceDiv, Nat.reduceSub, Nat.reduceLT, Nat.reduceLeDiff, Int.reduceLE, Int.reduceLT, Int.reduceToNat, Int.reduceEq, rightF, if_neg h0, if_neg h15]
      simp only [okF, spanR, oneF, h11, true_or, or_true, if_true, Int.reduceEq, or_self, if_false]
      grind
  refine ⟨fun h3 => ?_, fun h3 => ?_⟩
  · refine callK_1 _ (fun _ => cw112 r _ _ _ _ _) (by simp only [go_sem, ↓reduceIte, Nat.reduceEqDiff, Nat.reduceMul, Nat.reduceAdd, Nat.reduceDiv, Nat.reduceSub, Nat.reduceLT, Nat.reduceLeDiff, Int.reduceLE, Int.reduceLT, Int.reduceToNat, Int.reduceEq]) rfl rfl ?_
    simp only [go_sem, ↓reduceIte, Nat.reduceEqDiff, Nat.reduceMul, Nat.reduceAdd, Nat.reduceDiv, Nat.reduceSub, Nat.reduceLT, Nat.reduceLeDiff, Int.reduceLE, Int.reduceLT, Int.reduceToNat, Int.reduceEq]
    repeat (refine ⟨by (first | omega | (intro h1 h2; exact ⟨h1, h2⟩) | (intro h1; omega) | (intro h1; exact h1) | trivial), ?_⟩)
    refine callK_1 _ (fun _ => cw116 _ _ _ hn) (by simp only [go_sem, ↓reduceIte, Nat.reduceEqDiff, Nat.reduceMul, Nat.reduceAdd, Nat.reduceDiv, Nat.reduceSub, Nat.reduceLT, Nat.reduceLeDiff, Int.reduceLE, Int.reduceLT, Int.reduceToNat, Int.reduceEq]) rfl rfl ?_
    simp only [go_sem, ↓reduceIte, Nat.reduceEqDiff, Nat.reduceMul, Nat.reduceAdd, Nat.reduceDiv, Nat.reduceSub, Nat.reduceLT, Nat.reduceLeDiff, Int.reduceLE, Int.reduceLT, Int.reduceToNat, Int.reduceEq]
    repeat (refine ⟨by (first | omega | (intro h1 h2; exact ⟨h1, h2⟩) | (intro h1; omega) | (intro h1; exact h1) | trivial), ?_⟩)
    refine ⟨fun hh => ?_, fun hh => ?_⟩
    all_goals
      apply hQ
      all_goals simp only [go_sem, ↓reduceIte, Nat.reduceEqDiff, Nat.reduceMul, Nat.reduceAdd, Nat.reduceDiv, Nat.reduceSub, Nat.reduceLT, Nat.reduceLeDiff, Int.reduceLE, Int.reduceLT, Int.reduceToNat, Int.reduceEq, rightF, if_neg h0, if_neg h15]
      simp only [okF, spanR, oneF, h3, true_or, or_true, if_true, Int.reduceEq, or_self, if_false]
      grind
  refine ⟨fun h4 => ?_, fun h4 => ?_⟩
  · refine callK_1 _ (fun _ => cw112 r _ _ _ _ _) (by simp only [go_sem, ↓reduceIte, Nat.reduceEqDiff, Nat.reduceMul, Nat.reduceAdd, Nat.reduceDiv, Nat.reduceSub, Nat.reduceLT, Nat.reduceLeDiff, Int.reduceLE, Int.reduceLT, Int.reduceToNat, Int.reduceEq]) rfl rfl ?_
    simp only [go_sem, ↓reduceIte, Nat.reduceEqDiff, Nat.reduceMul, Nat.reduceAdd, Nat.reduceDiv, Nat.reduceSub, Nat.reduceLT, Nat.reduceLeDiff, Int.reduceLE, Int.reduceLT, Int.reduceToNat, Int.reduceEq]
    repeat (refine ⟨by (first | omega | (intro h1 h2; exact ⟨h1, h2⟩) | (intro h1; omega) | (intro h1; exact h1) | trivial), ?_⟩)
    refine callK_1 _ (fun _ => cw116 _ _ _ hn) (by simp only [go_sem, ↓reduceIte, Nat.reduceEqDiff, Nat.reduceMul, Nat.reduceAdd, Nat.reduceDiv, Nat.reduceSub, Nat.reduceLT, Nat.reduceLeDiff, Int.reduceLE, Int.reduceLT, Int.reduceToNat, Int.reduceEq]) rfl rfl ?_
    simp only [go_sem, ↓reduceIte, Nat.reduceEqDiff, Nat.reduceMul, Nat.reduceAdd, Nat.reduceDiv, Nat.reduceSub, Nat.reduceLT, Nat.reduceLeDiff, Int.reduceLE, Int.reduceLT, Int.reduceToNat, Int.reduceEq]
    repeat (refine ⟨by (first | omega | (intro h1 h2; exact ⟨h1, h2⟩) | (intro h1; omega) | (intro h1; exact h1) | trivial), ?_⟩)
    by_cases hl : ∃ a, r.to = [a]
    · obtain ⟨a, hto⟩ := hl
      have e0 : (runes r.to).getD 0 .undef = .int .i32 a := by simp [hto, runes]
      have el : r.to.length = 1 := by simp [hto]
      simp only [go_sem, ↓reduceIte, Nat.reduceEqDiff, Nat.reduceMul, Nat.reduceAdd, Nat.reduceDiv, Nat.reduceSub, Nat.reduceLT, Nat.reduceLeDiff, Int.reduceLE, Int.reduceLT, Int.reduceToNat, Int.reduceEq, e0, el]
      refine ⟨fun hk => ⟨by decide, ?_⟩, fun hk => ?_⟩
      · repeat (refine ⟨by (first | omega | (intro h1 h2; exact ⟨h1, h2⟩) | (intro h1; omega) | (intro h1; exact h1) | trivial), ?_⟩)
        refine ⟨fun hh => ?_, fun hh => ?_⟩
        all_goals
          apply hQ
          all_goals simp only [go_sem, ↓reduceIte, Nat.reduceEqDiff, Nat.reduceMul, Nat.reduceAdd, Nat.reduceDiv, Nat.reduceSub, Nat.reduceLT, Nat.reduceLeDiff, Int.reduceLE, Int.reduceLT, Int.reduceToNat, Int.reduceEq, rightF, if_neg h0, if_neg h15]
          have hs : okF r = (spanR r && bareR r true true false false false && decide (1 ≤ r.n) && decide (r.n ≤ 64) && listR r.to 1 1 && shiftF r) := by unfold okF; simp [h4]
          rw [hs]; unfold spanR shiftF; rw [hto]
          rw [hto] at hk
          grind
      · refine ⟨fun hh => ?_, fun hh => ?_⟩
        all_goals
          apply hQ
          all_goals simp only [go_sem, ↓reduceIte, Nat.reduceEqDiff, Nat.reduceMul, Nat.reduceAdd, Nat.reduceDiv, Nat.reduceSub, Nat.reduceLT, Nat.reduceLeDiff, Int.reduceLE, Int.reduceLT, Int.reduceToNat, Int.reduceEq, rightF, if_neg h0, if_neg h15]
          have hs : okF r = (spanR r && bareR r true true false false false && decide (1 ≤ r.n) && decide (r.n ≤ 64) && listR r.to 1 1 && shiftF r) := by unfold okF; simp [h4]
          rw [hs]; unfold spanR
          grind
    · have hf : listR r.to 1 1 = false := by
        match hto : r.to, hl with
        | [], _ => rfl
        | [a], hl => exact absurd ⟨a, rfl⟩ hl
        | a :: b :: l, _ => simp [listR]; omega
      refine ⟨fun hk => ?_, fun hk => ?_⟩
      · exfalso; rw [hf] at hk; simp at hk
      · refine ⟨fun hh => ?_, fun hh => ?_⟩
        all_goals
          apply hQ
          all_goals simp only [go_sem, ↓reduceIte, Nat.reduceEqDiff, Nat.reduceMul, Nat.reduceAdd, Nat.reduceDiv, Nat.reduceSub, Nat.reduceLT, Nat.reduceLeDiff, Int.reduceLE, Int.reduceLT, Int.reduceToNat, Int.reduceEq, rightF, if_neg h0, if_neg h15]
          have hs : okF r = (spanR r && bareR r true true false false false && decide (1 ≤ r.n) && decide (r.n ≤ 64) && listR r.to 1 1 && shiftF r) := by unfold okF; simp [h4]
          rw [hs]
          grind
  refine ⟨fun h5 => ?_, fun h5 => ?_⟩
  · refine callK_1 _ (fun _ => cw112 r _ _ _ _ _) (by simp only [go_sem, ↓reduceIte, Nat.reduceEqDiff, Nat.reduceMul, Nat.reduceAdd, Nat.reduceDiv, Nat.reduceSub, Nat.reduceLT, Nat.reduceLeDiff, Int.reduceLE, Int.reduceLT, Int.reduceToNat, Int.reduceEq]) rfl rfl ?_
    simp only [go_sem, ↓reduceIte, Nat.reduceEqDiff, Nat.reduceMul, Nat.reduceAdd, Nat.reduceDiv, Nat.reduceSub, Nat.reduceLT, Nat.reduceLeDiff, Int.reduceLE, Int.reduceLT, Int.reduceToNat, Int.reduceEq]
    repeat (refine ⟨by (first | omega | (intro h1 h2; exact ⟨h1, h2⟩) | (intro h1; omega) | (intro h1; exact h1) | trivial), ?_⟩)
    refine callK_1 _ (fun _ => cw116 _ _ _ hn) (by simp only [go_sem, ↓reduceIte, Nat.reduceEqDiff, Nat.reduceMul, Nat.reduceAdd, Nat.reduceDiv, Nat.reduceSub, Nat.reduceLT, Nat.reduceLeDiff, Int.reduceLE, Int.reduceLT, Int.reduceToNat, Int.reduceEq]) rfl rfl ?_
    simp only [go_sem, ↓reduceIte, Nat.reduceEqDiff, Nat.reduceMul, Nat.reduceAdd, Nat.reduceDiv, Nat.reduceSub, Nat.reduceLT, Nat.reduceLeDiff, Int.reduceLE, Int.reduceLT, Int.reduceToNat, Int.reduceEq]
    repeat (refine ⟨by (first | omega | (intro h1 h2; exact ⟨h1, h2⟩) | (intro h1; omega) | (intro h1; exact h1) | trivial), ?_⟩)
    refine ⟨fun hh => ?_, fun hh => ?_⟩
    all_goals
      apply hQ
      all_goals simp only [go_sem, ↓reduceIte, Nat.reduceEqDiff, Nat.reduceMul, Nat.reduceAdd, Nat.reduceDiv, Nat.reduceSub, Nat.reduceLT, Nat.reduceLeDiff, Int.reduceLE, Int.reduceLT, Int.reduceToNat, Int.reduceEq, rightF, if_neg h0, if_neg h15]
      simp only [okF, spanR, oneF, h5, true_or, or_true, if_true, Int.reduceEq, or_self, if_false]
      grind
  refine ⟨fun h13 => ?_, fun h13 => ?_⟩
  · refine callK_1 _ (fun _ => cw112 r _ _ _ _ _) (by simp only [go_sem, ↓reduceIte, Nat.reduceEqDiff, Nat.reduceMul, Nat.reduceAdd, Nat.reduceDiv, Nat.reduceSub, Nat.reduceLT, Nat.reduceLeDiff, Int.reduceLE, Int.reduceLT, Int.reduceToNat, Int.reduceEq]) rfl rfl ?_
    simp only [go_sem, ↓reduceIte, Nat.reduceEqDiff, Nat.reduceMul, Nat.reduceAdd, Nat.reduceDiv, Nat.reduceSub, Nat.reduceLT, Nat.reduceLeDiff, Int.reduceLE, Int.reduceLT, Int.reduceToNat, Int.reduceEq]
    repeat (refine ⟨by (first | omega | (intro h1 h2; exact ⟨h1, h2⟩) | (intro h1; omega) | (intro h1; exact h1) | trivial), ?_⟩)
    refine callK_1 _ (fun _ => cw116 _ _ _ hn) (by simp only [go_sem, ↓reduceIte, Nat.reduceEqDiff, Nat.reduceMul, Nat.reduceAdd, Nat.reduceDiv, Nat.reduceSub, Nat.reduceLT, Nat.reduceLeDiff, Int.reduceLE, Int.reduceLT, Int.reduceToNat, Int.reduceEq]) rfl rfl ?_
    simp only [go_sem, ↓reduceIte, Nat.reduceEqDiff, Nat.reduceMul, Nat.reduceAdd, Nat.reduceDiv, Nat.reduceSub, Nat.reduceLT, Nat.reduceLeDiff, Int.reduceLE, Int.reduceLT, Int.reduceToNat, Int.reduceEq]
    repeat (refine ⟨by (first | omega | (intro h1 h2; exact ⟨h1, h2⟩) | (intro h1; omega) | (intro h1; exact h1) | trivial), ?_⟩)
    refine ⟨fun hh => ?_, fun hh => ?_⟩
    all_goals
      apply hQ
      all_goals simp only [go_sem, ↓reduceIte, Nat.reduceEqDiff, Nat.reduceMul, Nat.reduceAdd, Nat.reduceDiv, Nat.reduceSub, Nat.reduceLT, Nat.reduceLeDiff, Int.reduceLE, Int.reduceLT, Int.reduceToNat, Int.reduceEq, rightF, if_neg h0, if_neg h15]
      simp only [okF, spanR, oneF, h13, true_or, or_true, if_true, Int.reduceEq, or_self, if_false]
      grind
  refine ⟨fun h6 => ?_, fun h6 => ?_⟩
  · refine callK_1 _ (fun _ => cw112 r _ _ _ _ _) (by simp only [go_sem, ↓reduceIte, Nat.reduceEqDiff, Nat.reduceMul, Nat.reduceAdd, Nat.reduceDiv, Nat.reduceSub, Nat.reduceLT, Nat.reduceLeDiff, Int.reduceLE, Int.reduceLT, Int.reduceToNat, Int.reduceEq]) rfl rfl ?_
    simp only [go_sem, ↓reduceIte, Nat.reduceEqDiff, Nat.reduceMul, Nat.reduceAdd, Nat.reduceDiv, Nat.reduceSub, Nat.reduceLT, Nat.reduceLeDiff, Int.reduceLE, Int.reduceLT, Int.reduceToNat, Int.reduceEq]
    repeat (refine ⟨by (first | omega | (intro h1 h2; exact ⟨h1, h2⟩) | (intro h1; omega) | (intro h1; exact h1) | trivial), ?_⟩)
    refine ⟨fun hh => ?_, fun hh => ?_⟩
    all_goals
      apply hQ
      all_goals simp only [go_sem, ↓reduceIte, Nat.reduceEqDiff, Nat.reduceMul, Nat.reduceAdd, Nat.reduceDiv, Nat.reduceSub, Nat.reduceLT, Nat.reduceLeDiff, Int.reduceLE, Int.reduceLT, Int.reduceToNat, Int.reduceEq, rightF, if_neg h0, if_neg h15]
      simp only [okF, spanR, oneF, h6, true_or, or_true, if_true, Int.reduceEq, or_self, if_false]
      grind
  refine ⟨fun h7 => ?_, fun h7 => ?_⟩
  · refine callK_1 _ (fun _ => cw112 r _ _ _ _ _) (by simp only [go_sem, ↓reduceIte, Nat.reduceEqDiff, Nat.reduceMul, Nat.reduceAdd, Nat.reduceDiv, Nat.reduceSub, Nat.reduceLT, Nat.reduceLeDiff, Int.reduceLE, Int.reduceLT, Int.reduceToNat, Int.reduceEq]) rfl rfl ?_
    simp only [go_sem, ↓reduceIte, Nat.reduceEqDiff, Nat.reduceMul, Nat.reduceAdd, Nat.reduceDiv, Nat.reduceSub, Nat.reduceLT, Nat.reduceLeDiff, Int.reduceLE, Int.reduceLT, Int.reduceToNat, Int.reduceEq]
    repeat (refine ⟨by (first | omega | (intro h1 h2; exact ⟨h1, h2⟩) | (intro h1; omega) | (intro h1; exact h1) | trivial), ?_⟩)
    refine callK_1 _ (fun _ => cw116 _ _ _ hn) (by simp only [go_sem, ↓reduceIte, Nat.reduceEqDiff, Nat.reduceMul, Nat.reduceAdd, Nat.reduceDiv, Nat.reduceSub, Nat.reduceLT, Nat.reduceLeDiff, Int.reduceLE, Int.reduceLT, Int.reduceToNat, Int.reduceEq]) rfl rfl ?_
    simp only [go_sem, ↓reduceIte, Nat.reduceEqDiff, Nat.reduceMul, Nat.reduceAdd, Nat.reduceDiv, Nat.reduceSub, Nat.reduceLT, Nat.reduceLeDiff, Int.reduceLE, Int.reduceLT, Int.reduceToNat, Int.reduceEq]
    repeat (refine ⟨by (first | omega | (intro h1 h2; exact ⟨h1, h2⟩) | (intro h1; omega) | (intro h1; exact h1) | trivial), ?_⟩)
    refine ⟨fun hh => ?_, fun hh => ?_⟩
    all_goals
      apply hQ
      all_goals simp only [go_sem, ↓reduceIte, Nat.reduceEqDiff, Nat.reduceMul, Nat.reduceAdd, Nat.reduceDiv, Nat.reduceSub, Nat.reduceLT, Nat.reduceLeDiff, Int.reduceLE, Int.reduceLT, Int.reduceToNat, Int.reduceEq, rightF, if_neg h0, if_neg h15]
      simp only [okF, spanR, oneF, h7, true_or, or_true, if_true, Int.reduceEq, or_self, if_false]
      grind
  refine ⟨fun h8 => ?_, fun h8 => ?_⟩
  · refine callK_1 _ (fun _ => cw112 r _ _ _ _ _) (by simp only [go_sem, ↓reduceIte, Nat.reduceEqDiff, Nat.reduceMul, Nat.reduceAdd, Nat.reduceDiv, Nat.reduceSub, Nat.reduceLT, Nat.reduceLeDiff, Int.reduceLE, Int.reduceLT, Int.reduceToNat, Int.reduceEq]) rfl rfl ?_
    simp only [go_sem, ↓reduceIte, Nat.reduceEqDiff, Nat.reduceMul, Nat.reduceAdd, Nat.reduceDiv, Nat.reduceSub, Nat.reduceLT, Nat.reduceLeDiff, Int.reduceLE, Int.reduceLT, Int.reduceToNat, Int.reduceEq]
    repeat (refine ⟨by (first | omega | (intro h1 h2; exact ⟨h1, h2⟩) | (intro h1; omega) | (intro h1; exact h1) | trivial), ?_⟩)
    refine callK_1 _ (fun _ => cw116 _ _ _ hn) (by simp only [go_sem, ↓reduceIte, Nat.reduceEqDiff, Nat.reduceMul, Nat.reduceAdd, Nat.reduceDiv, Nat.reduceSub, Nat.reduceLT, Nat.reduceLeDiff, Int.reduceLE, Int.reduceLT, Int.reduceToNat, Int.reduceEq]) rfl rfl ?_
    simp only [go_sem, ↓reduceIte, Nat.reduceEqDiff, Nat.reduceMul, Nat.reduceAdd, Nat.reduceDiv, Nat.reduceSub, Nat.reduceLT, Nat.reduceLeDiff, Int.reduceLE, Int.reduceLT, Int.reduceToNat, Int.reduceEq]
    repeat (refine ⟨by (first | omega | (intro h1 h2; exact ⟨h1, h2⟩) | (intro h1; omega) | (intro h1; exact h1) | trivial), ?_⟩)
    refine ⟨fun hh => ?_, fun hh => ?_⟩
    all_goals
      apply hQ
      all_goals simp only [go_sem, ↓reduceIte, Nat.reduceEqDiff, Nat.reduceMul, Nat.reduceAdd, Nat.reduceDiv, Nat.reduceSub, Nat.reduceLT, Nat.reduceLeDiff, Int.reduceLE, Int.reduceLT, Int.reduceToNat, Int.reduceEq, rightF, if_neg h0, if_neg h15]
      simp only [okF, spanR, oneF, h8, true_or, or_true, if_true, Int.reduceEq, or_self, if_false]
      grind
  refine ⟨fun h9 => ?_, fun h9 => ?_⟩
  · refine callK_1 _ (fun _ => cw112 r _ _ _ _ _) (by simp only [go_sem, ↓reduceIte, Nat.reduceEqDiff, Nat.reduceMul, Nat.reduceAdd, Nat.reduceDiv, Nat.reduceSub, Nat.reduceLT, Nat.reduceLeDiff, Int.reduceLE, Int.reduceLT, Int.reduceToNat, Int.reduceEq]) rfl rfl ?_
    simp only [go_sem, ↓reduceIte, Nat.reduceEqDiff, Nat.reduceMul, Nat.reduceAdd, Nat.reduceDiv, Nat.reduceSub, Nat.reduceLT, Nat.reduceLeDiff, Int.reduceLE, Int.reduceLT, Int.reduceToNat, Int.reduceEq]
    repeat (refine ⟨by (first | omega | (intro h1 h2; exact ⟨h1, h2⟩) | (intro h1; omega) | (intro h1; exact h1) | trivial), ?_⟩)
    refine ⟨fun hh => ?_, fun hh => ?_⟩
    all_goals
      apply hQ
      all_goals simp only [go_sem, ↓reduceIte, Nat.reduceEqDiff, Nat.reduceMul, Nat.reduceAdd, Nat.reduceDiv, Nat.reduceSub, Nat.reduceLT, Nat.reduceLeDiff, Int.reduceLE, Int.reduceLT, Int.reduceToNat, Int.reduceEq, rightF, if_neg h0, if_neg h15]
      simp only [okF, spanR, oneF, h9, true_or, or_true, if_true, Int.reduceEq, or_self, if_false]
      grind
  refine ⟨fun h10 => ?_, fun h10 => ?_⟩
  · refine callK_1 _ (fun _ => cw112 r _ _ _ _ _) (by simp only [go_sem, ↓reduceIte, Nat.reduceEqDiff, Nat.reduceMul, Nat.reduceAdd, Nat.reduceDiv, Nat.reduceSub, Nat.reduceLT, Nat.reduceLeDiff, Int.reduceLE, Int.reduceLT, Int.reduceToNat, Int.reduceEq]) rfl rfl ?_
    simp only [go_sem, ↓reduceIte, Nat.reduceEqDiff, Nat.reduceMul, Nat.reduceAdd, Nat.reduceDiv, Nat.reduceSub, Nat.reduceLT, Nat.reduceLeDiff, Int.reduceLE, Int.reduceLT, Int.reduceToNat, Int.reduceEq]
    repeat (refine ⟨by (first | omega | (intro h1 h2; exact ⟨h1, h2⟩) | (intro h1; omega) | (intro h1; exact h1) | trivial), ?_⟩)
    refine ⟨fun hh => ?_, fun hh => ?_⟩
    all_goals
      apply hQ
      all_goals simp only [go_sem, ↓reduceIte, Nat.reduceEqDiff, Nat.reduceMul, Nat.reduceAdd, Nat.reduceDiv, Nat.reduceSub, Nat.reduceLT, Nat.reduceLeDiff, Int.reduceLE, Int.reduceLT, Int.reduceToNat, Int.reduceEq, rightF, if_neg h0, if_neg h15]
      simp only [okF, spanR, oneF, h10, true_or, or_true, if_true, Int.reduceEq, or_self, if_false]
      grind
  refine ⟨fun h12 => ?_, fun h12 => ?_⟩
  · refine callK_1 _ (fun _ => cw112 r _ _ _ _ _) (by simp only [go_sem, ↓reduceIte, Nat.reduceEqDiff, Nat.reduceMul, Nat.reduceAdd, Nat.reduceDiv, Nat.reduceSub, Nat.reduceLT, Nat.reduceLeDiff, Int.reduceLE, Int.reduceLT, Int.reduceToNat, Int.reduceEq]) rfl rfl ?_
    simp only [go_sem, ↓reduceIte, Nat.reduceEqDiff, Nat.reduceMul, Nat.reduceAdd, Nat.reduceDiv, Nat.reduceSub, Nat.reduceLT, Nat.reduceLeDiff, Int.reduceLE, Int.reduceLT, Int.reduceToNat, Int.reduceEq]
    repeat (refine ⟨by (first | omega | (intro h1 h2; exact ⟨h1, h2⟩) | (intro h1; omega) | (intro h1; exact h1) | trivial), ?_⟩)
    refine callK_1 _ (fun _ => cw113 _) (by simp only [go_sem, ↓reduceIte, Nat.reduceEqDiff, Nat.reduceMul, Nat.reduceAdd, Nat.reduceDiv, Nat.reduceSub, Nat.reduceLT, Nat.reduceLeDiff, Int.reduceLE, Int.reduceLT, Int.reduceToNat, Int.reduceEq]) rfl rfl ?_
    simp only [go_sem, ↓reduceIte, Nat.reduceEqDiff, Nat.reduceMul, Nat.reduceAdd, Nat.reduceDiv, Nat.reduceSub, Nat.reduceLT, Nat.reduceLeDiff, Int.reduceLE, Int.reduceLT, Int.reduceToNat, Int.reduceEq]
    repeat (refine ⟨by (first | omega | (intro h1 h2; exact ⟨h1, h2⟩) | (intro h1; omega) | (intro h1; exact h1) | trivial), ?_⟩)
    refine ⟨fun hh => ?_, fun hh => ?_⟩
    all_goals
      apply hQ
      all_goals simp only [go_sem, ↓reduceIte, Nat.reduceEqDiff, Nat.reduceMul, Nat.reduceAdd, Nat.reduceDiv, Nat.reduceSub, Nat.reduceLT, Nat.reduceLeDiff, Int.reduceLE, Int.reduceLT, Int.reduceToNat, Int.reduceEq, rightF, if_neg h0, if_neg h15]
      simp only [okF, spanR, oneF, h12, true_or, or_true, if_true, Int.reduceEq, or_self, if_false]
      grind
  refine callK_1 _ (fun _ => cw112 r _ _ _ _ _) (by simp only [go_sem, ↓reduceIte, Nat.reduceEqDiff, Nat.reduceMul, Nat.reduceAdd, Nat.reduceDiv, Nat.reduceSub, Nat.reduceLT, Nat.reduceLeDiff, Int.reduceLE, Int.reduceLT, Int.reduceToNat, Int.reduceEq]) rfl rfl ?_
  simp only [go_sem, ↓reduceIte, Nat.reduceEqDiff, Nat.reduceMul, Nat.reduceAdd, Nat.reduceDiv, Nat.reduceSub, Nat.reduceLT, Nat.reduceLeDiff, Int.reduceLE, Int.reduceLT, Int.reduceToNat, Int.reduceEq]
  repeat (refine ⟨by (first | omega | (intro h1 h2; exact ⟨h1, h2⟩) | (intro h1; omega) | (intro h1; exact h1) | trivial), ?_⟩)
  refine callK_1 _ (fun _ => cw114 _) (by simp only [go_sem, ↓reduceIte, Nat.reduceEqDiff, Nat.reduceMul, Nat.reduceAdd, Nat.reduceDiv, Nat.reduceSub, Nat.reduceLT, Nat.reduceLeDiff, Int.reduceLE, Int.reduceLT, Int.reduceToNat, Int.reduceEq]) rfl rfl ?_
  simp only [go_sem, ↓reduceIte, Nat.reduceEqDiff, Nat.reduceMul, Nat.reduceAdd, Nat.reduceDiv, Nat.reduceSub, Nat.reduceLT, Nat.reduceLeDiff, Int.reduceLE, Int.reduceLT, Int.reduceToNat, Int.reduceEq]
  repeat (refine ⟨by (first | omega | (intro h1 h2; exact ⟨h1, h2⟩) | (intro h1; omega) | (intro h1; exact h1) | trivial), ?_⟩)
  refine ⟨fun hh => ?_, fun hh => ?_⟩
  all_goals
    apply hQ
    all_goals simp only [go_sem, ↓reduceIte, Nat.reduceEqDiff, Nat.reduceMul, Nat.reduceAdd, Nat.reduceDiv, Nat.reduceSub, Nat.reduceLT, Nat.reduceLeDiff, Int.reduceLE, Int.reduceLT, Int.reduceToNat, Int.reduceEq, rightF, if_neg h0, if_neg h15]
    simp only [okF, spanR, h1, h2, h11, h3, h4, h5, h13, h6, h7, h8, h9, h10, h12, or_self, if_false]
    grind
theorem cw72 (r : Rec) (hn : r.to.length < 9223372036854775808) : CW Try.prog 72 [.cv (Rec.cv r)] ⟨[.cv (.int .i64 (rightF r))], []⟩ :=
  top72 rfl rfl [] trivial (w72 r hn _ fun σ H h => ret1 rfl h)
/-- The reference's clash. -/
def clashC (b : Rec) (hi s : Int) : Nat → Int → Bool
  | 0, _ => false
  | k + 1, c => if c ≤ hi then (if speaksF b c = true then true else clashC b hi s k (IntKind.i64.wrap (c + s))) else false
def clashS (a b : Rec) : Int :=
  if a.lo < (if a.lo < b.lo then b.lo else a.lo) then IntKind.i64.wrap (a.lo + IntKind.i64.wrap (IntKind.i64.wrap ((IntKind.i64.wrap (IntKind.i64.wrap (IntKind.i64.wrap ((if a.lo < b.lo then b.lo else a.lo) - a.lo) + stepR a) - 1)).tdiv (stepR a)) * stepR a)) else a.lo
def clashF (a b : Rec) : Bool :=
  if famK a.kind ≠ famK b.kind then false else
  if a.kind = 15 then decide (a.name.data.toList = b.name.data.toList) && decide (a.other.data.toList = b.other.data.toList) || decide (a.name.data.toList = b.other.data.toList) && decide (a.other.data.toList = b.name.data.toList) else
  clashC b (if b.hi < a.hi then b.hi else a.hi) (stepR a) 64 (clashS a b)
theorem w73 (a b : Rec) (ha : a.ok) (hb : b.ok) (ha4 : a.kind = 4 → 1 ≤ a.n) (Q : Ex → Slots → LH → Prop) (hQ : ∀ σ H, Slots.get σ 4 = .c (.bool (clashF a b)) → Q .ret σ H) : rnC Try.prog b73 Q [(0, .c (Rec.cv a)), (1, .c (Rec.cv b))] [] := by
  unfold b73
  simp only [go_sem, ↓reduceIte, Nat.reduceEqDiff, Nat.reduceMul, Nat.reduceAdd, Nat.reduceDiv, Nat.reduceSub, Nat.reduceLT, Nat.reduceLeDiff, Int.reduceLE, Int.reduceLT, Int.reduceToNat, Int.reduceEq]
  refine callK_1 _ (fun _ => cw67 _) (by simp only [go_sem, ↓reduceIte, Nat.reduceEqDiff, Nat.reduceMul, Nat.reduceAdd, Nat.reduceDiv, Nat.reduceSub, Nat.reduceLT, Nat.reduceLeDiff, Int.reduceLE, Int.reduceLT, Int.reduceToNat, Int.reduceEq]) rfl rfl ?_
  simp only [go_sem, ↓reduceIte, Nat.reduceEqDiff, Nat.reduceMul, Nat.reduceAdd, Nat.reduceDiv, Nat.reduceSub, Nat.reduceLT, Nat.reduceLeDiff, Int.reduceLE, Int.reduceLT, Int.reduceToNat, Int.reduceEq]
  repeat (refine ⟨by (first | omega | (intro h1 h2; exact ⟨h1, h2⟩) | (intro h1; omega) | (intro h1; exact h1) | trivial), ?_⟩)
  refine callK_1 _ (fun _ => cw67 _) (by simp only [go_sem, ↓reduceIte, Nat.reduceEqDiff, Nat.reduceMul, Nat.reduceAdd, Nat.reduceDiv, Nat.reduceSub, Nat.reduceLT, Nat.reduceLeDiff, Int.reduceLE, Int.reduceLT, Int.reduceToNat, Int.reduceEq]) rfl rfl ?_
  simp only [go_sem, ↓reduceIte, Nat.reduceEqDiff, Nat.reduceMul, Nat.reduceAdd, Nat.reduceDiv, Nat.reduceSub, Nat.reduceLT, Nat.reduceLeDiff, Int.reduceLE, Int.reduceLT, Int.reduceToNat, Int.reduceEq]
  repeat (refine ⟨by (first | omega | (intro h1 h2; exact ⟨h1, h2⟩) | (intro h1; omega) | (intro h1; exact h1) | trivial), ?_⟩)
  refine ⟨fun h => ?_, fun h => ?_⟩
  · apply hQ
    all_goals simp only [go_sem, ↓reduceIte, Nat.reduceEqDiff, Nat.reduceMul, Nat.reduceAdd, Nat.reduceDiv, Nat.reduceSub, Nat.reduceLT, Nat.reduceLeDiff, Int.reduceLE, Int.reduceLT, Int.reduceToNat, Int.reduceEq, clashF, if_pos h]
  refine ⟨fun h15 => ?_, fun h15 => ?_⟩
  · repeat (refine ⟨by (first | omega | (intro h1 h2; exact ⟨h1, h2⟩) | (intro h1; omega) | (intro h1; exact h1) | trivial), ?_⟩)
    apply hQ
    all_goals simp only [go_sem, ↓reduceIte, Nat.reduceEqDiff, Nat.reduceMul, Nat.reduceAdd, Nat.reduceDiv, Nat.reduceSub, Nat.reduceLT, Nat.reduceLeDiff, Int.reduceLE, Int.reduceLT, Int.reduceToNat, Int.reduceEq]
    unfold clashF
    rw [if_neg (by simpa using h), if_pos h15]
    rw [Bool.beq_eq_decide_eq]
  have hf : clashF a b = clashC b (if b.hi < a.hi then b.hi else a.hi) (stepR a) 64 (clashS a b) := by
    unfold clashF
    rw [if_neg (by simpa using h), if_neg h15]
  refine callK_1 _ (fun _ => cw107 a) (by simp only [go_sem, ↓reduceIte, Nat.reduceEqDiff, Nat.reduceMul, Nat.reduceAdd, Nat.reduceDiv, Nat.reduceSub, Nat.reduceLT, Nat.reduceLeDiff, Int.reduceLE, Int.reduceLT, Int.reduceToNat, Int.reduceEq]) rfl rfl ?_
  simp only [go_sem, ↓reduceIte, Nat.reduceEqDiff, Nat.reduceMul, Nat.reduceAdd, Nat.reduceDiv, Nat.reduceSub, Nat.reduceLT, Nat.reduceLeDiff, Int.reduceLE, Int.reduceLT, Int.reduceToNat, Int.reduceEq]
  repeat (refine ⟨by (first | omega | (intro h1 h2; exact ⟨h1, h2⟩) | (intro h1; omega) | (intro h1; exact h1) | trivial), ?_⟩)
  have hst : ¬ stepR a = 0 := by
    unfold stepR
    have := ha4
    by_cases h4 : a.kind = 4
    · rw [if_pos h4]; have := ha4 h4; split <;> omega
    · rw [if_neg h4]; omega
  refine ⟨fun hs => ⟨hst, ?_⟩, fun hs => ?_⟩
  all_goals
    refine loopZR.by (α := Nat × Int) (fun p => [(3, .ref 128 0), (6, .c (.int .i64 (if b.hi < a.hi then b.hi else a.hi))), (7, .c (.int .i64 (stepR a))), (8, .c (.int .i64 p.2)), (9, .c (.int .i64 p.1))]) (fun _ => [(64, .obj [.c (.int .i64 a.kind), .c (.int .i64 a.lo), .c (.int .i64 a.hi), .c (.int .i64 a.n), .c (.sl 1 (runes a.to)), .c (.str a.name), .c (.str a.other), .c (.flt a.weight)]), (128, .obj [.c (.int .i64 b.kind), .c (.int .i64 b.lo), .c (.int .i64 b.hi), .c (.int .i64 b.n), .c (.sl 1 (runes b.to)), .c (.str b.name), .c (.str b.other), .c (.flt b.weight)])])
      (fun p => 64 - p.1) (fun p => p.1 ≤ 64 ∧ clashC b (if b.hi < a.hi then b.hi else a.hi) (stepR a) (64 - p.1) p.2 = clashF a b) (0, clashS a b) ⟨Nat.zero_le _, hf.symm⟩ ?_ ?_
    · intro Y hY
      simp only [go_sem, ↓reduceIte, Nat.reduceEqDiff, Nat.reduceMul, Nat.reduceAdd, Nat.reduceDiv, Nat.reduceSub, Nat.reduceLT, Nat.reduceLeDiff, Int.reduceLE, Int.reduceLT, Int.reduceToNat, Int.reduceEq]
      have hcs := clashS.eq_1 a b
      first | rw [if_pos hs] at hcs | rw [if_neg (Int.not_lt.2 hs)] at hcs
      dsimp only at hY
      rw [hcs] at hY
      exact hY
    · intro p hk Y hY
      obtain ⟨i, c⟩ := p
      obtain ⟨hk1, hk2⟩ := hk
      simp only at hk1 hk2
      unfold l73_0
      simp only [go_sem, ↓reduceIte, Nat.reduceEqDiff, Nat.reduceMul, Nat.reduceAdd, Nat.reduceDiv, Nat.reduceSub, Nat.reduceLT, Nat.reduceLeDiff, Int.reduceLE, Int.reduceLT, Int.reduceToNat, Int.reduceEq]
      refine ⟨fun hi => ?_, fun hi => hQ _ _ ?_⟩
      · have e : 64 - i = (64 - (i + 1)) + 1 := by omega
        rw [e, clashC, if_pos hi.2] at hk2
        refine callK_1 _ (fun _ => cw68 b _ hb) (by simp only [go_sem, ↓reduceIte, Nat.reduceEqDiff, Nat.reduceMul, Nat.reduceAdd, Nat.reduceDiv, Nat.reduceSub, Nat.reduceLT, Nat.reduceLeDiff, Int.reduceLE, Int.reduceLT, Int.reduceToNat, Int.reduceEq]) rfl rfl ?_
        simp only [go_sem, ↓reduceIte, Nat.reduceEqDiff, Nat.reduceMul, Nat.reduceAdd, Nat.reduceDiv, Nat.reduceSub, Nat.reduceLT, Nat.reduceLeDiff, Int.reduceLE, Int.reduceLT, Int.reduceToNat, Int.reduceEq]
        repeat (refine ⟨by (first | omega | (intro h1 h2; exact ⟨h1, h2⟩) | (intro h1; omega) | (intro h1; exact h1) | trivial), ?_⟩)
        refine ⟨fun h2 => hQ _ _ ?_, fun h2 => ?_⟩
        · simp only [go_sem, ↓reduceIte, Nat.reduceEqDiff, Nat.reduceMul, Nat.reduceAdd, Nat.reduceDiv, Nat.reduceSub, Nat.reduceLT, Nat.reduceLeDiff, Int.reduceLE, Int.reduceLT, Int.reduceToNat, Int.reduceEq]
          rw [← hk2, if_pos h2]
        · rw [if_neg (by rw [h2]; simp)] at hk2
          rw [succ64 (show i < 64 by omega) (by omega)]
          exact hY (i + 1, _) ⟨by simp only; omega, hk2⟩ (by simp only; omega)
      · simp only [go_sem, ↓reduceIte, Nat.reduceEqDiff, Nat.reduceMul, Nat.reduceAdd, Nat.reduceDiv, Nat.reduceSub, Nat.reduceLT, Nat.reduceLeDiff, Int.reduceLE, Int.reduceLT, Int.reduceToNat, Int.reduceEq]
        rw [← hk2]
        rcases Nat.lt_or_ge i 64 with h5 | h5
        · have e : 64 - i = (64 - (i + 1)) + 1 := by omega
          rw [e, clashC, if_neg (by omega)]
        · have e : 64 - i = 0 := by omega
          rw [e, clashC]
theorem cw73 (a b : Rec) (ha : a.ok) (hb : b.ok) (ha4 : a.kind = 4 → 1 ≤ a.n) : CW Try.prog 73 [.cv (Rec.cv a), .cv (Rec.cv b)] ⟨[.cv (.bool (clashF a b))], []⟩ :=
  top73 rfl rfl [] trivial (w73 a b ha hb ha4 _ fun σ H h => ret1 rfl h)
/-- The reference's Check. -/
def rightsF : List Rec → Int → Option (Int × Int)
  | [], _ => none
  | r :: l, i => if rightF r ≠ 0 then some (i, rightF r) else rightsF l (i + 1)
def twiceF (l : List Rec) : List Rec → List Rec → Int → Option Int
  | _, [], _ => none
  | p, r :: s, i => if p.any (fun o => clashF o r) = true then some i else twiceF l (p ++ [r]) s (i + 1)
def checkF (l : List Rec) : Int × Int :=
  if 4096 < l.length then (0, 3) else
  match rightsF l 0 with
  | some x => x
  | none =>
    match twiceF l [] l 0 with
    | some i => (i, 62)
    | none => (0, 0)
theorem rightsF_none : ∀ (l : List Rec) (i : Int), rightsF l i = none → ∀ r ∈ l, rightF r = 0
  | [], _, _, r, hr => by cases hr
  | a :: l, i, h, r, hr => by
    unfold rightsF at h
    by_cases e : rightF a = 0
    · rw [if_neg (by simpa using e)] at h
      rcases List.mem_cons.1 hr with rfl | hr
      · exact e
      · exact rightsF_none l _ h r hr
    · rw [if_pos e] at h; cases h
theorem rightF_n {r : Rec} (h : rightF r = 0) (h4 : r.kind = 4) : 1 ≤ r.n := by
  unfold rightF at h
  rw [h4] at h
  simp [famK] at h
  have h := h
  unfold okF at h
  simp [h4] at h
  exact h.1.1.1.2
theorem w51 (l : List Rec) (hl : ∀ r ∈ l, r.ok) (hto : ∀ r ∈ l, r.to.length ≤ 35184372088832) (Q : Ex → Slots → LH → Prop) (hQ : ∀ σ H, Slots.get σ 2 = .c (.int .i64 ((checkF l).1)) → Slots.get σ 3 = .c (.int .i64 ((checkF l).2)) → Q .ret σ H) : rnC Try.prog b51 Q [(0, .c (.sl 8 (recs l)))] [] := by
  unfold b51
  simp only [go_sem, ↓reduceIte, Nat.reduceEqDiff, Nat.reduceMul, Nat.reduceAdd, Nat.reduceDiv, Nat.reduceSub, Nat.reduceLT, Nat.reduceLeDiff, Int.reduceLE, Int.reduceLT, Int.reduceToNat, Int.reduceEq]
  refine ⟨fun h => ?_, fun h => ?_⟩
  · apply hQ
    all_goals
      simp only [go_sem, ↓reduceIte, Nat.reduceEqDiff, Nat.reduceMul, Nat.reduceAdd, Nat.reduceDiv, Nat.reduceSub, Nat.reduceLT, Nat.reduceLeDiff, Int.reduceLE, Int.reduceLT, Int.reduceToNat, Int.reduceEq]
      unfold checkF
      rw [if_pos (by omega)]
  have e0 : checkF l = match rightsF l 0 with
    | some x => x
    | none =>
      match twiceF l [] l 0 with
      | some i => (i, 62)
      | none => (0, 0) := if_neg (by omega)
  rw [e0] at hQ
  refine loopR.by (α := Nat) (fun i => [(0, .c (.sl 8 (recs l))), (4, .c (.int .i64 i))]) (fun i => []) (fun i => l.length - i) (fun i => i ≤ l.length ∧ (rightsF (l.drop i) i = rightsF l 0)) 0 ⟨Nat.zero_le _, rfl⟩ ?_ ?_
  · intro Y hY
    simp only [go_sem, ↓reduceIte, Nat.reduceEqDiff, Nat.reduceMul, Nat.reduceAdd, Nat.reduceDiv, Nat.reduceSub, Nat.reduceLT, Nat.reduceLeDiff, Int.reduceLE, Int.reduceLT, Int.reduceToNat, Int.reduceEq, n51_0]
    exact hY
  intro i hk Y hY
  unfold l51_0
  rcases Nat.lt_or_ge i (l.length) with hlt | hge
  · obtain ⟨r, e, hm, hd⟩ := recs_at hlt
    have hf' := hk.2
    rw [hd, rightsF] at hf'
    simp only [go_sem, ↓reduceIte, Nat.reduceEqDiff, Nat.reduceMul, Nat.reduceAdd, Nat.reduceDiv, Nat.reduceSub, Nat.reduceLT, Nat.reduceLeDiff, Int.reduceLE, Int.reduceLT, Int.reduceToNat, Int.reduceEq, n51_0, e]
    refine ⟨fun _ => ⟨by omega, ?_⟩, fun h => by omega⟩
    refine callK_1 _ (fun _ => cw72 r (by have := hto r hm; omega)) (by simp only [go_sem, ↓reduceIte, Nat.reduceEqDiff, Nat.reduceMul, Nat.reduceAdd, Nat.reduceDiv, Nat.reduceSub, Nat.reduceLT, Nat.reduceLeDiff, Int.reduceLE, Int.reduceLT, Int.reduceToNat, Int.reduceEq]) rfl rfl ?_
    simp only [go_sem, ↓reduceIte, Nat.reduceEqDiff, Nat.reduceMul, Nat.reduceAdd, Nat.reduceDiv, Nat.reduceSub, Nat.reduceLT, Nat.reduceLeDiff, Int.reduceLE, Int.reduceLT, Int.reduceToNat, Int.reduceEq]
    repeat (refine ⟨by (first | omega | (intro h1 h2; exact ⟨h1, h2⟩) | (intro h1; omega) | (intro h1; exact h1) | trivial), ?_⟩)
    rw [succ64 hlt (by omega)]
    refine ⟨fun h1 => ?_, fun h1 => hY (i + 1) ⟨hlt, ?_⟩ (by omega)⟩
    · rw [if_pos h1] at hf'
      rw [← hf'] at hQ
      exact hQ _ _ rfl rfl
    · rw [if_neg (by simpa using h1)] at hf'
      rw [← hf']; simp
  have hlen : i = l.length := by omega
  have hr := hk.2
  rw [hlen, List.drop_length] at hr
  have hright := rightsF_none l 0 hr.symm
  rw [show rightsF l 0 = none from hr.symm] at hQ
  simp only [go_sem, ↓reduceIte, Nat.reduceEqDiff, Nat.reduceMul, Nat.reduceAdd, Nat.reduceDiv, Nat.reduceSub, Nat.reduceLT, Nat.reduceLeDiff, Int.reduceLE, Int.reduceLT, Int.reduceToNat, Int.reduceEq, n51_0]
  refine ⟨fun h => by omega, fun _ => ?_⟩
  clear hk hY hge hlen hr
  refine loopR.by (α := Nat) (fun i => [(0, .c (.sl 8 (recs l))), (6, .c (.int .i64 i))]) (fun i => []) (fun i => l.length - i) (fun i => i ≤ l.length ∧ (twiceF l (l.take i) (l.drop i) i = twiceF l [] l 0)) 0 ⟨Nat.zero_le _, rfl⟩ ?_ ?_
  · intro Y hY
    simp only [go_sem, ↓reduceIte, Nat.reduceEqDiff, Nat.reduceMul, Nat.reduceAdd, Nat.reduceDiv, Nat.reduceSub, Nat.reduceLT, Nat.reduceLeDiff, Int.reduceLE, Int.reduceLT, Int.reduceToNat, Int.reduceEq, n51_1]
    exact hY
  intro i hk Y hY
  unfold l51_1
  rcases Nat.lt_or_ge i (l.length) with hlt | hge
  · obtain ⟨r, e, hm, hd⟩ := recs_at hlt
    have hf' := hk.2
    rw [hd, twiceF] at hf'
    simp only [go_sem, ↓reduceIte, Nat.reduceEqDiff, Nat.reduceMul, Nat.reduceAdd, Nat.reduceDiv, Nat.reduceSub, Nat.reduceLT, Nat.reduceLeDiff, Int.reduceLE, Int.reduceLT, Int.reduceToNat, Int.reduceEq, n51_1, e]
    refine ⟨fun _ => ?_, fun h => by omega⟩
    refine loopR.by (α := Nat) (fun k => [(0, .c (.sl 8 (recs l))), (6, .c (.int .i64 i)), (7, .c (.int .i64 k))]) (fun _ => []) (fun k => i - k)
      (fun k => k ≤ i ∧ ((l.take i).drop k).any (fun o => clashF o r) = (l.take i).any fun o => clashF o r) 0 ⟨Nat.zero_le _, rfl⟩ ?_ ?_
    · intro Z hZ
      simp only [go_sem, ↓reduceIte, Nat.reduceEqDiff, Nat.reduceMul, Nat.reduceAdd, Nat.reduceDiv, Nat.reduceSub, Nat.reduceLT, Nat.reduceLeDiff, Int.reduceLE, Int.reduceLT, Int.reduceToNat, Int.reduceEq, n51_2]
      exact hZ
    intro k hk2 Z hZ
    unfold l51_2
    rcases Nat.lt_or_ge k i with hlt2 | hge2
    · obtain ⟨o, e2, hm2, hd2⟩ := recs_at (show k < l.length by omega)
      have hf2 := hk2.2
      have hd3 : (l.take i).drop k = o :: (l.take i).drop (k + 1) := by
        have h1 : k < (l.take i).length := by rw [List.length_take]; omega
        rw [List.drop_eq_getElem_cons h1]
        congr 1
        rw [List.getElem_take]
        have h2 : l.drop k = l[k] :: l.drop (k + 1) := List.drop_eq_getElem_cons (by omega)
        rw [h2] at hd2
        injection hd2
      rw [hd3, List.any_cons] at hf2
      simp only [go_sem, ↓reduceIte, Nat.reduceEqDiff, Nat.reduceMul, Nat.reduceAdd, Nat.reduceDiv, Nat.reduceSub, Nat.reduceLT, Nat.reduceLeDiff, Int.reduceLE, Int.reduceLT, Int.reduceToNat, Int.reduceEq, n51_2, e, e2]
      refine ⟨fun _ => ?_, fun h => by omega⟩
      repeat (refine ⟨by (first | omega | (intro h1 h2; exact ⟨h1, h2⟩) | (intro h1; omega) | (intro h1; exact h1) | trivial), ?_⟩)
      refine callK_1 _ (fun _ => cw73 o r (hl _ hm2) (hl _ hm) (rightF_n (hright _ hm2))) (by simp only [go_sem, ↓reduceIte, Nat.reduceEqDiff, Nat.reduceMul, Nat.reduceAdd, Nat.reduceDiv, Nat.reduceSub, Nat.reduceLT, Nat.reduceLeDiff, Int.reduceLE, Int.reduceLT, Int.reduceToNat, Int.reduceEq]) rfl rfl ?_
      simp only [go_sem, ↓reduceIte, Nat.reduceEqDiff, Nat.reduceMul, Nat.reduceAdd, Nat.reduceDiv, Nat.reduceSub, Nat.reduceLT, Nat.reduceLeDiff, Int.reduceLE, Int.reduceLT, Int.reduceToNat, Int.reduceEq, e, e2]
      repeat (refine ⟨by (first | omega | (intro h1 h2; exact ⟨h1, h2⟩) | (intro h1; omega) | (intro h1; exact h1) | trivial), ?_⟩)
      rw [succ64 hlt2 (by omega)]
      refine ⟨fun h1 => ?_, fun h1 => hZ (k + 1) ⟨hlt2, ?_⟩ (by omega)⟩
      · rw [h1, Bool.true_or] at hf2
        rw [if_pos hf2.symm] at hf'
        rw [← hf'] at hQ
        exact hQ _ _ rfl rfl
      · rw [h1, Bool.false_or] at hf2
        exact hf2
    · simp only [go_sem, ↓reduceIte, Nat.reduceEqDiff, Nat.reduceMul, Nat.reduceAdd, Nat.reduceDiv, Nat.reduceSub, Nat.reduceLT, Nat.reduceLeDiff, Int.reduceLE, Int.reduceLT, Int.reduceToNat, Int.reduceEq, n51_2]
      refine ⟨fun h => by omega, fun _ => ?_⟩
      have hki : k = i := by omega
      have hf2 := hk2.2
      rw [hki, List.drop_eq_nil_of_le (by rw [List.length_take]; omega), List.any_nil] at hf2
      rw [if_neg (by rw [← hf2]; simp)] at hf'
      rw [succ64 hlt (by omega)]
      refine hY (i + 1) ⟨hlt, ?_⟩ (by omega)
      rw [← hf']
      congr 1
      rw [List.take_add_one, List.getElem?_eq_getElem hlt]
      have h2 : l.drop i = l[i] :: l.drop (i + 1) := List.drop_eq_getElem_cons hlt
      rw [h2] at hd
      injection hd with hd1 hd2
      rw [hd1]; rfl
  · have hlen : i = l.length := by omega
    have hr := hk.2
    rw [hlen, List.drop_length, twiceF] at hr
    rw [← hr] at hQ
    simp only [go_sem, ↓reduceIte, Nat.reduceEqDiff, Nat.reduceMul, Nat.reduceAdd, Nat.reduceDiv, Nat.reduceSub, Nat.reduceLT, Nat.reduceLeDiff, Int.reduceLE, Int.reduceLT, Int.reduceToNat, Int.reduceEq, n51_1]
    refine ⟨fun h => by omega, fun _ => ?_⟩
    exact hQ _ _ rfl rfl
theorem cw51 (l : List Rec) (hl : ∀ r ∈ l, r.ok) (hto : ∀ r ∈ l, r.to.length ≤ 35184372088832) : CW Try.prog 51 [.cv (.sl 8 (recs l))] ⟨[.cv (.int .i64 ((checkF l).1)), .cv (.int .i64 ((checkF l).2))], []⟩ :=
  top51 rfl rfl [] trivial (w51 l hl hto _ fun σ H h h' => ret2 rfl h h')
end Go.Proofs.Ytcpdnpaedkcebaa.V
