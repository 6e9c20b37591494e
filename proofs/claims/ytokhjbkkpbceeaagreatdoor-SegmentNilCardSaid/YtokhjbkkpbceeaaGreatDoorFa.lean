/- The functions of the program as instructions of the abstract machine, part 0. -/
import Derived.Test.YtokhjbkkpbceeaaGreatDoorEv
import Derived.Test.YtokhjbkkpbceeaaGreatDoorProg
namespace Go.Em
open Go
def d2 : FDef := ⟨1, .reg [⟨some 0, .call 1 [], none⟩], []⟩
def d3 : FDef := ⟨50, .seq (.reg [⟨some 3, .box 25 2 (.t 0), none⟩,
  ⟨some 5, .box 28 3 (.t 2), none⟩,
  ⟨some 6, .mv (.c (.b false)), none⟩])
 (.seq (.seq (.reg [⟨some 11, .call 9 [], none⟩,
  ⟨some 12, .un .not (.t 11), none⟩,
  ⟨some 13, .mv (.t 12), none⟩,
  ⟨some 14, .ld true 2 (.t 3), (some (13, false))⟩,
  ⟨some 15, .call 10 [(.t 14)], (some (13, false))⟩,
  ⟨some 16, .un .not (.t 15), (some (13, false))⟩,
  ⟨some 17, .pick (.t 13) (.c (.b true)) (.t 16), none⟩])
 (.cond (.t 17) (.seq (.reg [⟨some 18, .call 9 [], none⟩,
  ⟨some 6, .mv (.t 18), none⟩])
 (.ret))
 (.skip)))
 (.seq (.dreg 0 [⟨⟨some 19, .ld true 2 (.t 3), none⟩, 1, [], [], 0⟩,
  ⟨⟨some 20, .mv (.t 1), none⟩, 0, [], [], 0⟩,
  ⟨⟨some 21, .bin .rem (.t 20) (.c (.i .u8 (.ofNat 3))), none⟩, 0, [1], [], 0⟩,
  ⟨⟨some 22, .conv .i64 (.t 21), none⟩, 0, [1, 2], [], 0⟩,
  ⟨⟨some 23, .call 12 [(.t 19), (.t 22)], none⟩, 2, [0, 1, 2, 3], [], 0⟩,
  ⟨⟨some 24, .ld true 3 (.t 5), none⟩, 1, [], [], 0⟩,
  ⟨⟨some 25, .call 11 [(.t 23), (.t 24)], none⟩, 2, [0, 1, 2, 3, 4, 5], [], 0⟩,
  ⟨⟨some 7, .mv (.t 25), none⟩, 0, [0, 1, 2, 3, 4, 5, 6], [], 0⟩])
 (.seq (.reg [⟨some 27, .mv (.t 7), none⟩,
  ⟨some 28, .call 13 [(.t 27)], none⟩,
  ⟨some 26, .mv (.t 28), none⟩,
  ⟨some 29, .ext 0 (.t 26), none⟩,
  ⟨some 30, .ext 1 (.t 26), none⟩,
  ⟨some 8, .mv (.t 29), none⟩,
  ⟨some 9, .mv (.t 30), none⟩])
 (.seq (.reg [⟨some 31, .mv (.t 7), none⟩,
  ⟨some 32, .call 14 [(.t 31)], none⟩,
  ⟨some 10, .mv (.t 32), none⟩])
 (.seq (.reg [⟨some 33, .mv (.t 7), none⟩,
  ⟨some 34, .call 15 [(.t 33)], none⟩,
  ⟨some 35, .mv (.t 10), none⟩,
  ⟨some 36, .bin .eql (.t 34) (.t 35), none⟩,
  ⟨some 37, .mv (.t 36), none⟩,
  ⟨some 38, .mv (.t 9), (some (37, true))⟩,
  ⟨some 39, .mv (.t 10), (some (37, true))⟩,
  ⟨some 40, .bin .eql (.t 38) (.t 39), (some (37, true))⟩,
  ⟨some 41, .pick (.t 37) (.t 40) (.c (.b false)), none⟩,
  ⟨some 42, .mv (.t 41), none⟩,
  ⟨some 43, .mv (.t 10), (some (42, true))⟩,
  ⟨some 44, .bin .eql (.t 43) (.c (.i .i64 (.ofNat 0))), (some (42, true))⟩,
  ⟨some 45, .mv (.t 44), (some (42, true))⟩,
  ⟨some 46, .mv (.t 8), (some (45, false))⟩,
  ⟨some 47, .bin .eql (.t 46) (.c (.s [])), (some (45, false))⟩,
  ⟨some 48, .pick (.t 45) (.c (.b true)) (.t 47), (some (42, true))⟩,
  ⟨some 49, .pick (.t 42) (.t 48) (.c (.b false)), none⟩,
  ⟨some 6, .mv (.t 49), none⟩])
 (.ret)))))), [.t 6]⟩
def d4 : FDef := ⟨72, .seq (.reg [⟨some 3, .box 25 2 (.t 0), none⟩,
  ⟨some 5, .box 28 3 (.t 2), none⟩,
  ⟨some 6, .mv (.c (.b false)), none⟩])
 (.seq (.seq (.reg [⟨some 15, .call 9 [], none⟩,
  ⟨some 16, .un .not (.t 15), none⟩,
  ⟨some 17, .mv (.t 16), none⟩,
  ⟨some 18, .ld true 2 (.t 3), (some (17, false))⟩,
  ⟨some 19, .call 10 [(.t 18)], (some (17, false))⟩,
  ⟨some 20, .un .not (.t 19), (some (17, false))⟩,
  ⟨some 21, .pick (.t 17) (.c (.b true)) (.t 20), none⟩])
 (.cond (.t 21) (.seq (.reg [⟨some 22, .call 9 [], none⟩,
  ⟨some 6, .mv (.t 22), none⟩])
 (.ret))
 (.skip)))
 (.seq (.reg [⟨some 23, .ld true 2 (.t 3), none⟩,
  ⟨some 24, .mv (.t 1), none⟩,
  ⟨some 25, .bin .rem (.t 24) (.c (.i .u8 (.ofNat 3))), none⟩,
  ⟨some 26, .conv .i64 (.t 25), none⟩,
  ⟨some 27, .call 12 [(.t 23), (.t 26)], none⟩,
  ⟨some 7, .mv (.t 27), none⟩])
 (.seq (.reg [⟨some 28, .mv (.t 7), none⟩,
  ⟨some 29, .ld true 3 (.t 5), none⟩,
  ⟨some 30, .call 11 [(.t 28), (.t 29)], none⟩,
  ⟨some 8, .mv (.t 30), none⟩])
 (.seq (.reg [⟨some 32, .mv (.t 7), none⟩,
  ⟨some 33, .call 13 [(.t 32)], none⟩,
  ⟨some 31, .mv (.t 33), none⟩,
  ⟨some 34, .ext 0 (.t 31), none⟩,
  ⟨some 35, .ext 1 (.t 31), none⟩,
  ⟨some 9, .mv (.t 34), none⟩,
  ⟨some 10, .mv (.t 35), none⟩])
 (.seq (.reg [⟨some 37, .mv (.t 8), none⟩,
  ⟨some 38, .call 13 [(.t 37)], none⟩,
  ⟨some 36, .mv (.t 38), none⟩,
  ⟨some 39, .ext 0 (.t 36), none⟩,
  ⟨some 40, .ext 1 (.t 36), none⟩,
  ⟨some 11, .mv (.t 39), none⟩,
  ⟨some 12, .mv (.t 40), none⟩])
 (.seq (.reg [⟨some 42, .buildS 86 37 0 [.i .i64 (.ofNat 0), .b false, .s [], .b false, .s [], .b false, .s [], .b false, .s [], .b false, .b false, .s [], .b false, .s [], .b false, .s [], .b false, .s [], .b false, .b false, .b false, .b false, .s [], .b false, .s [], .b false, .s [], .b false, .s [], .b false, .s [], .b false, .s [], .b false, .s [], .b false, .s []] [], none⟩,
  ⟨some 43, .mv (.t 7), none⟩,
  ⟨some 44, .app 86 37 416 (.t 42) (.t 43), none⟩,
  ⟨some 45, .call 13 [(.t 44)], none⟩,
  ⟨some 41, .mv (.t 45), none⟩,
  ⟨some 46, .ext 0 (.t 41), none⟩,
  ⟨some 47, .ext 1 (.t 41), none⟩,
  ⟨some 13, .mv (.t 46), none⟩,
  ⟨some 14, .mv (.t 47), none⟩])
 (.seq (.reg [⟨some 48, .mv (.t 10), none⟩,
  ⟨some 49, .bin .eql (.t 48) (.c (.i .i64 (.ofNat 0))), none⟩,
  ⟨some 50, .mv (.t 49), none⟩,
  ⟨some 51, .mv (.t 14), (some (50, true))⟩,
  ⟨some 52, .bin .eql (.t 51) (.c (.i .i64 (.ofNat 0))), (some (50, true))⟩,
  ⟨some 53, .pick (.t 50) (.t 52) (.c (.b false)), none⟩,
  ⟨some 54, .mv (.t 53), none⟩,
  ⟨some 55, .mv (.t 13), (some (54, true))⟩,
  ⟨some 56, .mv (.t 9), (some (54, true))⟩,
  ⟨some 57, .bin .eql (.t 55) (.t 56), (some (54, true))⟩,
  ⟨some 58, .pick (.t 54) (.t 57) (.c (.b false)), none⟩,
  ⟨some 59, .mv (.t 58), none⟩,
  ⟨some 60, .mv (.t 12), (some (59, true))⟩,
  ⟨some 61, .bin .neq (.t 60) (.c (.i .i64 (.ofNat 0))), (some (59, true))⟩,
  ⟨some 62, .mv (.t 61), (some (59, true))⟩,
  ⟨some 63, .mv (.t 9), (some (62, false))⟩,
  ⟨some 64, .mv (.t 11), (some (62, false))⟩,
  ⟨some 65, .bin .eql (.t 63) (.t 64), (some (62, false))⟩,
  ⟨some 66, .mv (.t 7), (some (62, false))⟩,
  ⟨some 67, .mv (.t 8), (some (62, false))⟩,
  ⟨some 68, .call 16 [(.t 66), (.t 67)], (some (62, false))⟩,
  ⟨some 69, .eqB false (.t 65) (.t 68), (some (62, false))⟩,
  ⟨some 70, .pick (.t 62) (.c (.b true)) (.t 69), (some (59, true))⟩,
  ⟨some 71, .pick (.t 59) (.t 70) (.c (.b false)), none⟩,
  ⟨some 6, .mv (.t 71), none⟩])
 (.ret)))))))), [.t 6]⟩
def d5 : FDef := ⟨144, .seq (.reg [⟨some 3, .box 25 2 (.t 0), none⟩,
  ⟨some 6, .mv (.c (.b false)), none⟩])
 (.seq (.seq (.reg [⟨some 18, .call 9 [], none⟩,
  ⟨some 19, .un .not (.t 18), none⟩,
  ⟨some 20, .mv (.t 19), none⟩,
  ⟨some 21, .ld true 2 (.t 3), (some (20, false))⟩,
  ⟨some 22, .call 10 [(.t 21)], (some (20, false))⟩,
  ⟨some 23, .un .not (.t 22), (some (20, false))⟩,
  ⟨some 24, .pick (.t 20) (.c (.b true)) (.t 23), none⟩])
 (.cond (.t 24) (.seq (.reg [⟨some 25, .call 9 [], none⟩,
  ⟨some 6, .mv (.t 25), none⟩])
 (.ret))
 (.skip)))
 (.seq (.dreg 0 [⟨⟨some 26, .ld true 2 (.t 3), none⟩, 1, [], [], 0⟩,
  ⟨⟨some 27, .mv (.t 1), none⟩, 0, [], [], 0⟩,
  ⟨⟨some 28, .call 17 [(.t 27)], none⟩, 2, [1], [], 0⟩,
  ⟨⟨some 29, .call 12 [(.t 26), (.t 28)], none⟩, 2, [0, 1, 2], [], 0⟩,
  ⟨⟨some 7, .mv (.t 29), none⟩, 0, [0, 1, 2, 3], [], 0⟩])
 (.seq (.reg [⟨some 31, .mv (.t 7), none⟩,
  ⟨some 32, .call 13 [(.t 31)], none⟩,
  ⟨some 30, .mv (.t 32), none⟩,
  ⟨some 33, .ext 0 (.t 30), none⟩,
  ⟨some 34, .ext 1 (.t 30), none⟩,
  ⟨some 8, .mv (.t 33), none⟩,
  ⟨some 9, .mv (.t 34), none⟩])
 (.seq (.reg [⟨some 36, .mv (.t 8), none⟩,
  ⟨some 37, .call 18 [(.t 36)], none⟩,
  ⟨some 35, .mv (.t 37), none⟩,
  ⟨some 38, .ext 0 (.t 35), none⟩,
  ⟨some 39, .ext 1 (.t 35), none⟩,
  ⟨some 10, .mv (.t 38), none⟩,
  ⟨some 11, .mv (.t 39), none⟩])
 (.seq (.seq (.reg [⟨some 40, .mv (.t 9), none⟩,
  ⟨some 41, .bin .neq (.t 40) (.c (.i .i64 (.ofNat 0))), none⟩,
  ⟨some 42, .mv (.t 41), none⟩,
  ⟨some 43, .mv (.t 11), (some (42, false))⟩,
  ⟨some 44, .bin .neq (.t 43) (.c (.i .i64 (.ofNat 0))), (some (42, false))⟩,
  ⟨some 45, .pick (.t 42) (.c (.b true)) (.t 44), none⟩,
  ⟨some 46, .mv (.t 45), none⟩,
  ⟨some 47, .mv (.t 10), (some (46, false))⟩,
  ⟨some 48, .eqP false (.t 47) (.c (.p none)), (some (46, false))⟩,
  ⟨some 49, .pick (.t 46) (.c (.b true)) (.t 48), none⟩,
  ⟨some 50, .mv (.t 49), none⟩,
  ⟨some 51, .mv (.t 8), (some (50, false))⟩,
  ⟨some 52, .call 19 [(.t 51)], (some (50, false))⟩,
  ⟨some 53, .bin .neq (.t 52) (.c (.i .i64 (.ofNat 0))), (some (50, false))⟩,
  ⟨some 54, .pick (.t 50) (.c (.b true)) (.t 53), none⟩,
  ⟨some 55, .mv (.t 54), none⟩,
  ⟨some 56, .mv (.t 7), (some (55, false))⟩,
  ⟨some 57, .call 15 [(.t 56)], (some (55, false))⟩,
  ⟨some 58, .bin .neq (.t 57) (.c (.i .i64 (.ofNat 0))), (some (55, false))⟩,
  ⟨some 59, .pick (.t 55) (.c (.b true)) (.t 58), none⟩])
 (.cond (.t 59) (.seq (.reg [⟨some 6, .mv (.c (.b false)), none⟩])
 (.ret))
 (.skip)))
 (.seq (.reg [⟨some 61, .mv (.t 10), none⟩,
  ⟨some 62, .call 20 [(.t 61)], none⟩,
  ⟨some 60, .mv (.t 62), none⟩,
  ⟨some 63, .ext 0 (.t 60), none⟩,
  ⟨some 64, .ext 1 (.t 60), none⟩,
  ⟨some 12, .mv (.t 63), none⟩,
  ⟨some 13, .mv (.t 64), none⟩])
 (.seq (.seq (.reg [⟨some 65, .mv (.t 13), none⟩,
  ⟨some 66, .bin .neq (.t 65) (.c (.i .i64 (.ofNat 0))), none⟩,
  ⟨some 67, .mv (.t 66), none⟩,
  ⟨some 68, .mv (.t 12), (some (67, false))⟩,
  ⟨some 69, .mv (.t 7), (some (67, false))⟩,
  ⟨some 70, .call 16 [(.t 68), (.t 69)], (some (67, false))⟩,
  ⟨some 71, .un .not (.t 70), (some (67, false))⟩,
  ⟨some 72, .pick (.t 67) (.c (.b true)) (.t 71), none⟩,
  ⟨some 73, .mv (.t 72), none⟩,
  ⟨some 74, .mv (.t 10), (some (73, false))⟩,
  ⟨some 75, .call 21 [(.t 74)], (some (73, false))⟩,
  ⟨some 76, .mv (.t 7), (some (73, false))⟩,
  ⟨some 77, .lenS (.t 76), (some (73, false))⟩,
  ⟨some 78, .bin .neq (.t 75) (.t 77), (some (73, false))⟩,
  ⟨some 79, .pick (.t 73) (.c (.b true)) (.t 78), none⟩,
  ⟨some 80, .mv (.t 79), none⟩,
  ⟨some 81, .mv (.t 10), (some (80, false))⟩,
  ⟨some 82, .call 22 [(.t 81)], (some (80, false))⟩,
  ⟨some 83, .mv (.t 7), (some (80, false))⟩,
  ⟨some 84, .call 23 [(.t 83)], (some (80, false))⟩,
  ⟨some 85, .lenS (.t 84), (some (80, false))⟩,
  ⟨some 86, .bin .neq (.t 82) (.t 85), (some (80, false))⟩,
  ⟨some 87, .pick (.t 80) (.c (.b true)) (.t 86), none⟩,
  ⟨some 88, .mv (.t 87), none⟩,
  ⟨some 89, .mv (.t 10), (some (88, false))⟩,
  ⟨some 90, .call 25 [(.t 89)], (some (88, false))⟩,
  ⟨some 91, .mv (.t 7), (some (88, false))⟩,
  ⟨some 92, .call 26 [(.t 91)], (some (88, false))⟩,
  ⟨some 93, .call 24 [(.t 90), (.t 92)], (some (88, false))⟩,
  ⟨some 94, .un .not (.t 93), (some (88, false))⟩,
  ⟨some 95, .pick (.t 88) (.c (.b true)) (.t 94), none⟩])
 (.cond (.t 95) (.seq (.reg [⟨some 6, .mv (.c (.b false)), none⟩])
 (.ret))
 (.skip)))
 (.seq (.reg [⟨some 96, .mv (.t 7), none⟩,
  ⟨some 97, .call 26 [(.t 96)], none⟩,
  ⟨some 98, .mv (.t 2), none⟩,
  ⟨some 99, .buildS 3 1 1 [.i .i64 (.ofNat 0)] [(0, 1, (.t 98))], none⟩,
  ⟨some 100, .app 3 1 8 (.t 97) (.t 99), none⟩,
  ⟨some 14, .mv (.t 100), none⟩])
 (.seq (.seq (.reg [⟨some 15, .mv (.c (.i .i64 (.ofNat 0))), none⟩])
 (.block 0 (.loop (.seq (.seq (.reg [⟨some 101, .mv (.t 15), none⟩,
  ⟨some 102, .mv (.t 14), none⟩,
  ⟨some 103, .lenS (.t 102), none⟩,
  ⟨some 104, .bin .lss (.t 101) (.t 103), none⟩])
 (.cond (.t 104) (.skip)
 (.exit 0)))
 (.seq (.block 1 (.seq (.reg [⟨some 108, .mv (.t 10), none⟩,
  ⟨some 109, .mv (.t 14), none⟩,
  ⟨some 110, .mv (.t 15), none⟩,
  ⟨some 111, .iadS 1 (.t 109) (.t 110), none⟩,
  ⟨some 112, .ld false 1 (.t 111), none⟩,
  ⟨some 113, .call 27 [(.t 108), (.t 112)], none⟩,
  ⟨some 107, .mv (.t 113), none⟩,
  ⟨some 114, .ext 0 (.t 107), none⟩,
  ⟨some 115, .ext 1 (.t 107), none⟩,
  ⟨some 16, .mv (.t 114), none⟩,
  ⟨some 17, .mv (.t 115), none⟩])
 (.seq (.dreg 0 [⟨⟨some 116, .mv (.t 17), none⟩, 0, [], [], 0⟩,
  ⟨⟨some 117, .bin .neq (.t 116) (.c (.i .i64 (.ofNat 0))), none⟩, 0, [0], [], 0⟩,
  ⟨⟨some 118, .mv (.t 117), none⟩, 0, [0, 1], [], 0⟩,
  ⟨⟨some 119, .mv (.t 16), (some (118, false))⟩, 0, [0, 1, 2], [], 0⟩,
  ⟨⟨some 120, .mv (.t 7), (some (118, false))⟩, 0, [0, 1, 2], [], 0⟩,
  ⟨⟨some 121, .mv (.t 14), (some (118, false))⟩, 0, [0, 1, 2], [], 0⟩,
  ⟨⟨some 122, .mv (.t 15), (some (118, false))⟩, 0, [0, 1, 2], [], 0⟩,
  ⟨⟨some 123, .iadS 1 (.t 121) (.t 122), (some (118, false))⟩, 0, [0, 1, 2, 5, 6], [], 0⟩,
  ⟨⟨some 124, .ld false 1 (.t 123), (some (118, false))⟩, 1, [0, 1, 2, 5, 6, 7], [], 0⟩,
  ⟨⟨some 125, .call 29 [(.t 120), (.t 124)], (some (118, false))⟩, 2, [0, 1, 2, 4, 5, 6, 7, 8], [], 0⟩,
  ⟨⟨some 126, .call 28 [(.t 119), (.t 125)], (some (118, false))⟩, 2, [0, 1, 2, 3, 4, 5, 6, 7, 8, 9], [], 0⟩,
  ⟨⟨some 127, .un .not (.t 126), (some (118, false))⟩, 0, [0, 1, 2, 3, 4, 5, 6, 7, 8, 9, 10], [], 0⟩,
  ⟨⟨some 128, .pick (.t 118) (.c (.b true)) (.t 127), none⟩, 0, [0, 1, 2, 3, 4, 5, 6, 7, 8, 9, 10, 11], [], 0⟩,
  ⟨⟨some 129, .mv (.t 128), none⟩, 0, [0, 1, 2, 3, 4, 5, 6, 7, 8, 9, 10, 11, 12], [], 0⟩,
  ⟨⟨some 130, .mv (.t 10), (some (129, false))⟩, 0, [0, 1, 2, 3, 4, 5, 6, 7, 8, 9, 10, 11, 12, 13], [], 0⟩,
  ⟨⟨some 131, .mv (.t 14), (some (129, false))⟩, 0, [0, 1, 2, 3, 4, 5, 6, 7, 8, 9, 10, 11, 12, 13], [], 0⟩,
  ⟨⟨some 132, .mv (.t 15), (some (129, false))⟩, 0, [0, 1, 2, 3, 4, 5, 6, 7, 8, 9, 10, 11, 12, 13], [], 0⟩,
  ⟨⟨some 133, .iadS 1 (.t 131) (.t 132), (some (129, false))⟩, 0, [0, 1, 2, 3, 4, 5, 6, 7, 8, 9, 10, 11, 12, 13, 15, 16], [], 0⟩,
  ⟨⟨some 134, .ld false 1 (.t 133), (some (129, false))⟩, 1, [0, 1, 2, 3, 4, 5, 6, 7, 8, 9, 10, 11, 12, 13, 15, 16, 17], [], 0⟩,
  ⟨⟨some 135, .call 30 [(.t 130), (.t 134)], (some (129, false))⟩, 2, [0, 1, 2, 3, 4, 5, 6, 7, 8, 9, 10, 11, 12, 13, 14, 15, 16, 17, 18], [], 0⟩,
  ⟨⟨some 136, .mv (.t 7), (some (129, false))⟩, 0, [0, 1, 2, 3, 4, 5, 6, 7, 8, 9, 10, 11, 12, 13], [], 0⟩,
  ⟨⟨some 137, .mv (.t 14), (some (129, false))⟩, 0, [0, 1, 2, 3, 4, 5, 6, 7, 8, 9, 10, 11, 12, 13], [], 0⟩,
  ⟨⟨some 138, .mv (.t 15), (some (129, false))⟩, 0, [0, 1, 2, 3, 4, 5, 6, 7, 8, 9, 10, 11, 12, 13], [], 0⟩,
  ⟨⟨some 139, .iadS 1 (.t 137) (.t 138), (some (129, false))⟩, 0, [0, 1, 2, 3, 4, 5, 6, 7, 8, 9, 10, 11, 12, 13, 21, 22], [], 0⟩,
  ⟨⟨some 140, .ld false 1 (.t 139), (some (129, false))⟩, 1, [0, 1, 2, 3, 4, 5, 6, 7, 8, 9, 10, 11, 12, 13, 21, 22, 23], [], 0⟩,
  ⟨⟨some 141, .call 31 [(.t 136), (.t 140)], (some (129, false))⟩, 2, [0, 1, 2, 3, 4, 5, 6, 7, 8, 9, 10, 11, 12, 13, 14, 15, 16, 17, 18, 19, 20, 21, 22, 23, 24], [], 0⟩,
  ⟨⟨some 142, .bin .neq (.t 135) (.t 141), (some (129, false))⟩, 0, [0, 1, 2, 3, 4, 5, 6, 7, 8, 9, 10, 11, 12, 13, 14, 15, 16, 17, 18, 19, 20, 21, 22, 23, 24, 25], [], 0⟩,
  ⟨⟨some 143, .pick (.t 129) (.c (.b true)) (.t 142), none⟩, 0, [0, 1, 2, 3, 4, 5, 6, 7, 8, 9, 10, 11, 12, 13, 14, 15, 16, 17, 18, 19, 20, 21, 22, 23, 24, 25, 26], [], 0⟩])
 (.cond (.t 143) (.seq (.reg [⟨some 6, .mv (.c (.b false)), none⟩])
 (.ret))
 (.skip)))))
 (.reg [⟨some 105, .mv (.t 15), none⟩,
  ⟨some 106, .bin .add (.t 105) (.c (.i .i64 (.ofNat 1))), none⟩,
  ⟨some 15, .mv (.t 106), none⟩]))))))
 (.seq (.reg [⟨some 6, .mv (.c (.b true)), none⟩])
 (.ret))))))))))), [.t 6]⟩
def d6 : FDef := ⟨119, .seq (.reg [⟨some 3, .box 25 2 (.t 0), none⟩,
  ⟨some 5, .box 63 6 (.t 2), none⟩,
  ⟨some 6, .mv (.c (.b false)), none⟩])
 (.seq (.seq (.reg [⟨some 21, .call 9 [], none⟩,
  ⟨some 22, .un .not (.t 21), none⟩,
  ⟨some 23, .mv (.t 22), none⟩,
  ⟨some 24, .ld true 2 (.t 3), (some (23, false))⟩,
  ⟨some 25, .call 10 [(.t 24)], (some (23, false))⟩,
  ⟨some 26, .un .not (.t 25), (some (23, false))⟩,
  ⟨some 27, .pick (.t 23) (.c (.b true)) (.t 26), none⟩])
 (.cond (.t 27) (.seq (.reg [⟨some 28, .call 9 [], none⟩,
  ⟨some 6, .mv (.t 28), none⟩])
 (.ret))
 (.skip)))
 (.seq (.dreg 0 [⟨⟨some 29, .ld true 2 (.t 3), none⟩, 1, [], [], 0⟩,
  ⟨⟨some 30, .mv (.t 1), none⟩, 0, [], [], 0⟩,
  ⟨⟨some 31, .call 17 [(.t 30)], none⟩, 2, [1], [], 0⟩,
  ⟨⟨some 32, .call 12 [(.t 29), (.t 31)], none⟩, 2, [0, 1, 2], [], 0⟩,
  ⟨⟨some 7, .mv (.t 32), none⟩, 0, [0, 1, 2, 3], [], 0⟩])
 (.seq (.reg [⟨some 34, .mv (.t 7), none⟩,
  ⟨some 35, .call 13 [(.t 34)], none⟩,
  ⟨some 33, .mv (.t 35), none⟩,
  ⟨some 36, .ext 0 (.t 33), none⟩,
  ⟨some 37, .ext 1 (.t 33), none⟩,
  ⟨some 8, .mv (.t 36), none⟩,
  ⟨some 9, .mv (.t 37), none⟩])
 (.seq (.reg [⟨some 39, .mv (.t 8), none⟩,
  ⟨some 40, .call 18 [(.t 39)], none⟩,
  ⟨some 38, .mv (.t 40), none⟩,
  ⟨some 41, .ext 0 (.t 38), none⟩,
  ⟨some 42, .ext 1 (.t 38), none⟩,
  ⟨some 10, .mv (.t 41), none⟩,
  ⟨some 11, .mv (.t 42), none⟩])
 (.seq (.seq (.reg [⟨some 43, .mv (.t 9), none⟩,
  ⟨some 44, .bin .neq (.t 43) (.c (.i .i64 (.ofNat 0))), none⟩,
  ⟨some 45, .mv (.t 44), none⟩,
  ⟨some 46, .mv (.t 11), (some (45, false))⟩,
  ⟨some 47, .bin .neq (.t 46) (.c (.i .i64 (.ofNat 0))), (some (45, false))⟩,
  ⟨some 48, .pick (.t 45) (.c (.b true)) (.t 47), none⟩])
 (.cond (.t 48) (.seq (.reg [⟨some 6, .mv (.c (.b false)), none⟩])
 (.ret))
 (.skip)))
 (.seq (.reg [⟨some 50, .mv (.t 10), none⟩,
  ⟨some 51, .ld true 6 (.t 5), none⟩,
  ⟨some 52, .call 32 [(.t 50), (.t 51)], none⟩,
  ⟨some 49, .mv (.t 52), none⟩,
  ⟨some 53, .ext 0 (.t 49), none⟩,
  ⟨some 54, .ext 1 (.t 49), none⟩,
  ⟨some 12, .mv (.t 53), none⟩,
  ⟨some 13, .mv (.t 54), none⟩])
 (.seq (.reg [⟨some 56, .mv (.t 10), none⟩,
  ⟨some 57, .call 33 [(.t 56)], none⟩,
  ⟨some 55, .mv (.t 57), none⟩,
  ⟨some 58, .ext 0 (.t 55), none⟩,
  ⟨some 59, .ext 1 (.t 55), none⟩,
  ⟨some 14, .new 63 6 [.i .i64 (.ofNat 0), .i .i64 (.ofNat 0), .i .i64 (.ofNat 0), .i .i64 (.ofNat 0), .i .i64 (.ofNat 0), .i .i64 (.ofNat 0)], none⟩,
  ⟨none, .st 6 (.t 14) (.t 58), none⟩,
  ⟨some 15, .mv (.t 59), none⟩])
 (.seq (.reg [⟨some 61, .mv (.t 7), none⟩,
  ⟨some 62, .call 34 [(.t 61)], none⟩,
  ⟨some 60, .mv (.t 62), none⟩,
  ⟨some 63, .ext 0 (.t 60), none⟩,
  ⟨some 64, .ext 1 (.t 60), none⟩,
  ⟨some 16, .new 63 6 [.i .i64 (.ofNat 0), .i .i64 (.ofNat 0), .i .i64 (.ofNat 0), .i .i64 (.ofNat 0), .i .i64 (.ofNat 0), .i .i64 (.ofNat 0)], none⟩,
  ⟨none, .st 6 (.t 16) (.t 63), none⟩,
  ⟨some 17, .mv (.t 64), none⟩])
 (.seq (.seq (.dreg 0 [⟨⟨some 65, .mv (.t 13), none⟩, 0, [], [], 0⟩,
  ⟨⟨some 66, .bin .neq (.t 65) (.c (.i .i64 (.ofNat 0))), none⟩, 0, [0], [], 0⟩,
  ⟨⟨some 67, .mv (.t 66), none⟩, 0, [0, 1], [], 0⟩,
  ⟨⟨some 68, .mv (.t 12), (some (67, false))⟩, 0, [0, 1, 2], [], 0⟩,
  ⟨⟨some 69, .mv (.t 7), (some (67, false))⟩, 0, [0, 1, 2], [], 0⟩,
  ⟨⟨some 70, .ld true 6 (.t 5), (some (67, false))⟩, 1, [0, 1, 2], [], 0⟩,
  ⟨⟨some 71, .call 35 [(.t 69), (.t 70)], (some (67, false))⟩, 2, [0, 1, 2, 4, 5], [], 0⟩,
  ⟨⟨some 72, .call 16 [(.t 68), (.t 71)], (some (67, false))⟩, 2, [0, 1, 2, 3, 4, 5, 6], [], 0⟩,
  ⟨⟨some 73, .un .not (.t 72), (some (67, false))⟩, 0, [0, 1, 2, 3, 4, 5, 6, 7], [], 0⟩,
  ⟨⟨some 74, .pick (.t 67) (.c (.b true)) (.t 73), none⟩, 0, [0, 1, 2, 3, 4, 5, 6, 7, 8], [], 0⟩,
  ⟨⟨some 75, .mv (.t 74), none⟩, 0, [0, 1, 2, 3, 4, 5, 6, 7, 8, 9], [], 0⟩,
  ⟨⟨some 76, .mv (.t 10), (some (75, false))⟩, 0, [0, 1, 2, 3, 4, 5, 6, 7, 8, 9, 10], [], 0⟩,
  ⟨⟨some 77, .ld true 6 (.t 5), (some (75, false))⟩, 1, [0, 1, 2, 3, 4, 5, 6, 7, 8, 9, 10], [], 0⟩,
  ⟨⟨some 78, .call 36 [(.t 76), (.t 77)], (some (75, false))⟩, 2, [0, 1, 2, 3, 4, 5, 6, 7, 8, 9, 10, 11, 12], [], 0⟩,
  ⟨⟨some 79, .mv (.t 7), (some (75, false))⟩, 0, [0, 1, 2, 3, 4, 5, 6, 7, 8, 9, 10], [], 0⟩,
  ⟨⟨some 80, .ld true 6 (.t 5), (some (75, false))⟩, 1, [0, 1, 2, 3, 4, 5, 6, 7, 8, 9, 10], [], 0⟩,
  ⟨⟨some 81, .call 37 [(.t 79), (.t 80)], (some (75, false))⟩, 2, [0, 1, 2, 3, 4, 5, 6, 7, 8, 9, 10, 11, 12, 13, 14, 15], [], 0⟩,
  ⟨⟨some 82, .bin .neq (.t 78) (.t 81), (some (75, false))⟩, 0, [0, 1, 2, 3, 4, 5, 6, 7, 8, 9, 10, 11, 12, 13, 14, 15, 16], [], 0⟩,
  ⟨⟨some 83, .pick (.t 75) (.c (.b true)) (.t 82), none⟩, 0, [0, 1, 2, 3, 4, 5, 6, 7, 8, 9, 10, 11, 12, 13, 14, 15, 16, 17], [], 0⟩,
  ⟨⟨some 84, .mv (.t 83), none⟩, 0, [0, 1, 2, 3, 4, 5, 6, 7, 8, 9, 10, 11, 12, 13, 14, 15, 16, 17, 18], [], 0⟩,
  ⟨⟨some 85, .ld true 6 (.t 14), (some (84, false))⟩, 1, [0, 1, 2, 3, 4, 5, 6, 7, 8, 9, 10, 11, 12, 13, 14, 15, 16, 17, 18, 19], [], 0⟩,
  ⟨⟨some 86, .ld true 6 (.t 16), (some (84, false))⟩, 1, [0, 1, 2, 3, 4, 5, 6, 7, 8, 9, 10, 11, 12, 13, 14, 15, 16, 17, 18, 19], [], 0⟩,
  ⟨⟨some 87, .eqC true [.i .i64, .i .i64, .i .i64, .i .i64, .i .i64, .i .i64] (.t 85) (.t 86), (some (84, false))⟩, 0, [0, 1, 2, 3, 4, 5, 6, 7, 8, 9, 10, 11, 12, 13, 14, 15, 16, 17, 18, 19, 20, 21], [], 0⟩,
  ⟨⟨some 88, .pick (.t 84) (.c (.b true)) (.t 87), none⟩, 0, [0, 1, 2, 3, 4, 5, 6, 7, 8, 9, 10, 11, 12, 13, 14, 15, 16, 17, 18, 19, 20, 21, 22], [], 0⟩,
  ⟨⟨some 89, .mv (.t 88), none⟩, 0, [0, 1, 2, 3, 4, 5, 6, 7, 8, 9, 10, 11, 12, 13, 14, 15, 16, 17, 18, 19, 20, 21, 22, 23], [], 0⟩,
  ⟨⟨some 90, .mv (.t 15), (some (89, false))⟩, 0, [0, 1, 2, 3, 4, 5, 6, 7, 8, 9, 10, 11, 12, 13, 14, 15, 16, 17, 18, 19, 20, 21, 22, 23, 24], [], 0⟩,
  ⟨⟨some 91, .mv (.t 17), (some (89, false))⟩, 0, [0, 1, 2, 3, 4, 5, 6, 7, 8, 9, 10, 11, 12, 13, 14, 15, 16, 17, 18, 19, 20, 21, 22, 23, 24], [], 0⟩,
  ⟨⟨some 92, .eqB true (.t 90) (.t 91), (some (89, false))⟩, 0, [0, 1, 2, 3, 4, 5, 6, 7, 8, 9, 10, 11, 12, 13, 14, 15, 16, 17, 18, 19, 20, 21, 22, 23, 24, 25, 26], [], 0⟩,
  ⟨⟨some 93, .pick (.t 89) (.c (.b true)) (.t 92), none⟩, 0, [0, 1, 2, 3, 4, 5, 6, 7, 8, 9, 10, 11, 12, 13, 14, 15, 16, 17, 18, 19, 20, 21, 22, 23, 24, 25, 26, 27], [], 0⟩])
 (.cond (.t 93) (.seq (.reg [⟨some 6, .mv (.c (.b false)), none⟩])
 (.ret))
 (.skip)))
 (.seq (.seq (.reg [⟨some 18, .mv (.c (.i .i64 (.ofNat 0))), none⟩])
 (.block 0 (.loop (.seq (.seq (.reg [⟨some 94, .mv (.t 18), none⟩,
  ⟨some 95, .mv (.t 7), none⟩,
  ⟨some 96, .lenS (.t 95), none⟩,
  ⟨some 97, .bin .lss (.t 94) (.t 96), none⟩])
 (.cond (.t 97) (.skip)
 (.exit 0)))
 (.seq (.block 1 (.seq (.reg [⟨some 101, .mv (.t 7), none⟩,
  ⟨some 102, .mv (.t 18), none⟩,
  ⟨some 103, .iadS 37 (.t 101) (.t 102), none⟩,
  ⟨some 104, .ld true 37 (.t 103), none⟩,
  ⟨some 105, .call 38 [(.t 104)], none⟩,
  ⟨some 100, .mv (.t 105), none⟩,
  ⟨some 106, .ext 0 (.t 100), none⟩,
  ⟨some 107, .ext 1 (.t 100), none⟩,
  ⟨some 19, .new 63 6 [.i .i64 (.ofNat 0), .i .i64 (.ofNat 0), .i .i64 (.ofNat 0), .i .i64 (.ofNat 0), .i .i64 (.ofNat 0), .i .i64 (.ofNat 0)], none⟩,
  ⟨none, .st 6 (.t 19) (.t 106), none⟩,
  ⟨some 20, .mv (.t 107), none⟩])
 (.seq (.dreg 0 [⟨⟨some 108, .mv (.t 20), none⟩, 0, [], [], 0⟩,
  ⟨⟨some 109, .bin .neq (.t 108) (.c (.i .i64 (.ofNat 0))), none⟩, 0, [0], [], 0⟩,
  ⟨⟨some 110, .mv (.t 109), none⟩, 0, [0, 1], [], 0⟩,
  ⟨⟨some 111, .ld true 6 (.t 19), (some (110, false))⟩, 1, [0, 1, 2], [], 0⟩,
  ⟨⟨some 112, .mv (.t 7), (some (110, false))⟩, 0, [0, 1, 2], [], 0⟩,
  ⟨⟨some 113, .mv (.t 18), (some (110, false))⟩, 0, [0, 1, 2], [], 0⟩,
  ⟨⟨some 114, .iadS 37 (.t 112) (.t 113), (some (110, false))⟩, 0, [0, 1, 2, 4, 5], [], 0⟩,
  ⟨⟨some 115, .ld true 37 (.t 114), (some (110, false))⟩, 1, [0, 1, 2, 4, 5, 6], [], 0⟩,
  ⟨⟨some 116, .call 39 [(.t 115)], (some (110, false))⟩, 2, [0, 1, 2, 4, 5, 6, 7], [], 0⟩,
  ⟨⟨some 117, .eqC true [.i .i64, .i .i64, .i .i64, .i .i64, .i .i64, .i .i64] (.t 111) (.t 116), (some (110, false))⟩, 0, [0, 1, 2, 3, 4, 5, 6, 7, 8], [], 0⟩,
  ⟨⟨some 118, .pick (.t 110) (.c (.b true)) (.t 117), none⟩, 0, [0, 1, 2, 3, 4, 5, 6, 7, 8, 9], [], 0⟩])
 (.cond (.t 118) (.seq (.reg [⟨some 6, .mv (.c (.b false)), none⟩])
 (.ret))
 (.skip)))))
 (.reg [⟨some 98, .mv (.t 18), none⟩,
  ⟨some 99, .bin .add (.t 98) (.c (.i .i64 (.ofNat 1))), none⟩,
  ⟨some 18, .mv (.t 99), none⟩]))))))
 (.seq (.reg [⟨some 6, .mv (.c (.b true)), none⟩])
 (.ret)))))))))))), [.t 6]⟩
def d7 : FDef := ⟨92, .seq (.reg [⟨some 3, .box 25 2 (.t 0), none⟩,
  ⟨some 4, .box 91 3 (.t 1), none⟩,
  ⟨some 5, .box 63 6 (.t 2), none⟩,
  ⟨some 6, .mv (.c (.b false)), none⟩])
 (.seq (.seq (.reg [⟨some 13, .call 9 [], none⟩,
  ⟨some 14, .un .not (.t 13), none⟩,
  ⟨some 15, .mv (.t 14), none⟩,
  ⟨some 16, .ld true 2 (.t 3), (some (15, false))⟩,
  ⟨some 17, .call 10 [(.t 16)], (some (15, false))⟩,
  ⟨some 18, .un .not (.t 17), (some (15, false))⟩,
  ⟨some 19, .pick (.t 15) (.c (.b true)) (.t 18), none⟩])
 (.cond (.t 19) (.seq (.reg [⟨some 20, .call 9 [], none⟩,
  ⟨some 6, .mv (.t 20), none⟩])
 (.ret))
 (.skip)))
 (.seq (.reg [⟨some 21, .ld true 2 (.t 3), none⟩,
  ⟨some 22, .fad 2 (.t 4), none⟩,
  ⟨some 23, .ld false 1 (.t 22), none⟩,
  ⟨some 24, .bin .shr (.t 23) (.c (.i .u64 (.ofNat 4))), none⟩,
  ⟨some 25, .bin .rem (.t 24) (.c (.i .u8 (.ofNat 4))), none⟩,
  ⟨some 26, .conv .i64 (.t 25), none⟩,
  ⟨some 27, .call 12 [(.t 21), (.t 26)], none⟩,
  ⟨some 7, .mv (.t 27), none⟩])
 (.seq (.reg [⟨some 29, .mv (.t 7), none⟩,
  ⟨some 30, .call 13 [(.t 29)], none⟩,
  ⟨some 28, .mv (.t 30), none⟩,
  ⟨some 31, .ext 0 (.t 28), none⟩,
  ⟨some 32, .ext 1 (.t 28), none⟩,
  ⟨some 8, .mv (.t 31), none⟩,
  ⟨some 9, .mv (.t 32), none⟩])
 (.seq (.seq (.reg [⟨some 33, .mv (.t 9), none⟩,
  ⟨some 34, .bin .neq (.t 33) (.c (.i .i64 (.ofNat 0))), none⟩,
  ⟨some 35, .mv (.t 34), none⟩,
  ⟨some 36, .mv (.t 8), (some (35, false))⟩,
  ⟨some 37, .lenT (.t 36), (some (35, false))⟩,
  ⟨some 38, .bin .eql (.t 37) (.c (.i .i64 (.ofNat 0))), (some (35, false))⟩,
  ⟨some 39, .pick (.t 35) (.c (.b true)) (.t 38), none⟩])
 (.cond (.t 39) (.seq (.reg [⟨some 6, .mv (.c (.b false)), none⟩])
 (.ret))
 (.skip)))
 (.seq (.reg [⟨some 40, .fad 0 (.t 4), none⟩,
  ⟨some 41, .ld false 1 (.t 40), none⟩,
  ⟨some 42, .conv .i64 (.t 41), none⟩,
  ⟨some 43, .mv (.t 8), none⟩,
  ⟨some 44, .lenT (.t 43), none⟩,
  ⟨some 45, .bin .rem (.t 42) (.t 44), none⟩,
  ⟨some 10, .mv (.t 45), none⟩])
 (.seq (.reg [⟨some 46, .mv (.t 8), none⟩,
  ⟨some 11, .mv (.t 46), none⟩])
 (.seq (.seq (.reg [⟨some 47, .fad 2 (.t 4), none⟩,
  ⟨some 48, .ld false 1 (.t 47), none⟩,
  ⟨some 49, .bin .rem (.t 48) (.c (.i .u8 (.ofNat 4))), none⟩])
 (.block 0 (.seq (.seq (.reg [⟨some 57, .bin .eql (.t 49) (.c (.i .u8 (.ofNat 0))), none⟩,
  ⟨some 56, .mv (.t 57), none⟩])
 (.cond (.t 56) (.skip)
 (.reg [⟨some 58, .bin .eql (.t 49) (.c (.i .u8 (.ofNat 1))), none⟩,
  ⟨some 56, .mv (.t 58), none⟩])))
 (.cond (.t 56) (.seq (.bad)
 (.seq (.dreg 0 [⟨⟨some 61, .mv (.t 12), none⟩, 0, [], [], 0⟩,
  ⟨⟨some 62, .mv (.t 10), none⟩, 0, [], [], 0⟩,
  ⟨⟨some 63, .iadS 1 (.t 61) (.t 62), none⟩, 0, [0, 1], [], 0⟩,
  ⟨⟨some 64, .ld false 1 (.t 63), none⟩, 1, [0, 1, 2], [], 0⟩,
  ⟨⟨some 65, .fad 1 (.t 4), none⟩, 0, [], [], 0⟩,
  ⟨⟨some 66, .ld false 1 (.t 65), none⟩, 1, [4], [], 0⟩,
  ⟨⟨some 67, .mnmx true (.t 66) (.c (.i .u8 (.ofNat 1))), none⟩, 0, [4, 5], [], 0⟩,
  ⟨⟨some 68, .bin .xor (.t 64) (.t 67), none⟩, 0, [0, 1, 2, 3, 4, 5, 6], [], 0⟩,
  ⟨⟨some 69, .iadS 1 (.t 61) (.t 62), none⟩, 0, [0, 1, 2, 3, 4, 5, 6, 7], [], 0⟩,
  ⟨⟨none, .st 1 (.t 69) (.t 68), none⟩, 2, [0, 1, 2, 3, 4, 5, 6, 7, 8], [], 0⟩])
 (.reg [⟨some 70, .mv (.t 12), none⟩,
  ⟨some 71, .bts (.t 70), none⟩,
  ⟨some 11, .mv (.t 71), none⟩])))
 (.seq (.reg [⟨some 73, .bin .eql (.t 49) (.c (.i .u8 (.ofNat 2))), none⟩,
  ⟨some 72, .mv (.t 73), none⟩])
 (.cond (.t 72) (.reg [⟨some 74, .mv (.t 8), none⟩,
  ⟨some 75, .mv (.t 10), none⟩,
  ⟨some 76, .slcT (.t 74) none (some (.t 75)), none⟩,
  ⟨some 11, .mv (.t 76), none⟩])
 (.reg [⟨some 50, .mv (.t 8), none⟩,
  ⟨some 51, .fad 1 (.t 4), none⟩,
  ⟨some 52, .ld false 1 (.t 51), none⟩,
  ⟨some 53, .buildS 5 1 1 [.i .u8 (.ofNat 0)] [(0, 1, (.t 52))], none⟩,
  ⟨some 54, .bts (.t 53), none⟩,
  ⟨some 55, .bin .add (.t 50) (.t 54), none⟩,
  ⟨some 11, .mv (.t 55), none⟩])))))))
 (.seq (.reg [⟨some 77, .mv (.t 11), none⟩,
  ⟨some 78, .call 19 [(.t 77)], none⟩,
  ⟨some 79, .bin .neq (.t 78) (.c (.i .i64 (.ofNat 0))), none⟩,
  ⟨some 80, .mv (.t 79), none⟩,
  ⟨some 81, .mv (.t 11), (some (80, true))⟩,
  ⟨some 82, .mv (.t 7), (some (80, true))⟩,
  ⟨some 83, .ld true 6 (.t 5), (some (80, true))⟩,
  ⟨some 84, .fad 1 (.t 4), (some (80, true))⟩,
  ⟨some 85, .ld false 1 (.t 84), (some (80, true))⟩,
  ⟨some 86, .bin .rem (.t 85) (.c (.i .u8 (.ofNat 16))), (some (80, true))⟩,
  ⟨some 87, .conv .i64 (.t 86), (some (80, true))⟩,
  ⟨some 88, .bin .mul (.c (.i .i64 (.ofNat 2))) (.t 87), (some (80, true))⟩,
  ⟨some 89, .bin .add (.c (.i .i64 (.ofNat 1))) (.t 88), (some (80, true))⟩,
  ⟨some 90, .call 40 [(.t 81), (.t 82), (.t 83), (.t 89)], (some (80, true))⟩,
  ⟨some 91, .pick (.t 80) (.t 90) (.c (.b false)), none⟩,
  ⟨some 6, .mv (.t 91), none⟩])
 (.ret))))))))), [.t 6]⟩
def d8 : FDef := ⟨91, .seq (.reg [⟨some 2, .box 63 6 (.t 0), none⟩,
  ⟨some 4, .mv (.c (.b false)), none⟩])
 (.seq (.reg [⟨some 5, .mv (.c (.p none)), none⟩])
 (.seq (.reg [⟨some 15, .mv (.t 5), none⟩,
  ⟨some 16, .call 20 [(.t 15)], none⟩,
  ⟨some 14, .mv (.t 16), none⟩,
  ⟨some 17, .ext 0 (.t 14), none⟩,
  ⟨some 18, .ext 1 (.t 14), none⟩,
  ⟨some 6, .mv (.t 17), none⟩,
  ⟨some 7, .mv (.t 18), none⟩])
 (.seq (.reg [⟨some 20, .mv (.t 5), none⟩,
  ⟨some 21, .mv (.t 1), none⟩,
  ⟨some 22, .call 27 [(.t 20), (.t 21)], none⟩,
  ⟨some 19, .mv (.t 22), none⟩,
  ⟨some 23, .ext 0 (.t 19), none⟩,
  ⟨some 24, .ext 1 (.t 19), none⟩,
  ⟨some 8, .mv (.t 23), none⟩,
  ⟨some 9, .mv (.t 24), none⟩])
 (.seq (.reg [⟨some 26, .mv (.t 5), none⟩,
  ⟨some 27, .ld true 6 (.t 2), none⟩,
  ⟨some 28, .call 32 [(.t 26), (.t 27)], none⟩,
  ⟨some 25, .mv (.t 28), none⟩,
  ⟨some 29, .ext 0 (.t 25), none⟩,
  ⟨some 30, .ext 1 (.t 25), none⟩,
  ⟨some 10, .mv (.t 29), none⟩,
  ⟨some 11, .mv (.t 30), none⟩])
 (.seq (.reg [⟨some 32, .mv (.t 5), none⟩,
  ⟨some 33, .call 33 [(.t 32)], none⟩,
  ⟨some 31, .mv (.t 33), none⟩,
  ⟨some 34, .ext 0 (.t 31), none⟩,
  ⟨some 35, .ext 1 (.t 31), none⟩,
  ⟨some 12, .new 63 6 [.i .i64 (.ofNat 0), .i .i64 (.ofNat 0), .i .i64 (.ofNat 0), .i .i64 (.ofNat 0), .i .i64 (.ofNat 0), .i .i64 (.ofNat 0)], none⟩,
  ⟨none, .st 6 (.t 12) (.t 34), none⟩,
  ⟨some 13, .mv (.t 35), none⟩])
 (.seq (.dreg 0 [⟨⟨some 36, .call 9 [], none⟩, 2, [], [], 0⟩,
  ⟨⟨some 37, .mv (.t 36), none⟩, 0, [0], [], 0⟩,
  ⟨⟨some 38, .mv (.t 6), (some (37, true))⟩, 0, [0, 1], [], 0⟩,
  ⟨⟨some 39, .lenS (.t 38), (some (37, true))⟩, 0, [0, 1, 2], [], 0⟩,
  ⟨⟨some 40, .mv (.t 8), (some (37, true))⟩, 0, [0, 1], [], 0⟩,
  ⟨⟨some 41, .lenS (.t 40), (some (37, true))⟩, 0, [0, 1, 4], [], 0⟩,
  ⟨⟨some 42, .bin .add (.t 39) (.t 41), (some (37, true))⟩, 0, [0, 1, 2, 3, 4, 5], [], 0⟩,
  ⟨⟨some 43, .mv (.t 10), (some (37, true))⟩, 0, [0, 1], [], 0⟩,
  ⟨⟨some 44, .lenS (.t 43), (some (37, true))⟩, 0, [0, 1, 7], [], 0⟩,
  ⟨⟨some 45, .bin .add (.t 42) (.t 44), (some (37, true))⟩, 0, [0, 1, 2, 3, 4, 5, 6, 7, 8], [], 0⟩,
  ⟨⟨some 46, .bin .eql (.t 45) (.c (.i .i64 (.ofNat 0))), (some (37, true))⟩, 0, [0, 1, 2, 3, 4, 5, 6, 7, 8, 9], [], 0⟩,
  ⟨⟨some 47, .pick (.t 37) (.t 46) (.c (.b false)), none⟩, 0, [0, 1, 2, 3, 4, 5, 6, 7, 8, 9, 10], [], 0⟩,
  ⟨⟨some 48, .mv (.t 47), none⟩, 0, [0, 1, 2, 3, 4, 5, 6, 7, 8, 9, 10, 11], [], 0⟩,
  ⟨⟨some 49, .mv (.t 7), (some (48, true))⟩, 0, [0, 1, 2, 3, 4, 5, 6, 7, 8, 9, 10, 11, 12], [], 0⟩,
  ⟨⟨some 50, .bin .eql (.t 49) (.c (.i .i64 (.ofNat 1))), (some (48, true))⟩, 0, [0, 1, 2, 3, 4, 5, 6, 7, 8, 9, 10, 11, 12, 13], [], 0⟩,
  ⟨⟨some 51, .pick (.t 48) (.t 50) (.c (.b false)), none⟩, 0, [0, 1, 2, 3, 4, 5, 6, 7, 8, 9, 10, 11, 12, 13, 14], [], 0⟩,
  ⟨⟨some 52, .mv (.t 51), none⟩, 0, [0, 1, 2, 3, 4, 5, 6, 7, 8, 9, 10, 11, 12, 13, 14, 15], [], 0⟩,
  ⟨⟨some 53, .mv (.t 9), (some (52, true))⟩, 0, [0, 1, 2, 3, 4, 5, 6, 7, 8, 9, 10, 11, 12, 13, 14, 15, 16], [], 0⟩,
  ⟨⟨some 54, .bin .eql (.t 53) (.c (.i .i64 (.ofNat 1))), (some (52, true))⟩, 0, [0, 1, 2, 3, 4, 5, 6, 7, 8, 9, 10, 11, 12, 13, 14, 15, 16, 17], [], 0⟩,
  ⟨⟨some 55, .pick (.t 52) (.t 54) (.c (.b false)), none⟩, 0, [0, 1, 2, 3, 4, 5, 6, 7, 8, 9, 10, 11, 12, 13, 14, 15, 16, 17, 18], [], 0⟩,
  ⟨⟨some 56, .mv (.t 55), none⟩, 0, [0, 1, 2, 3, 4, 5, 6, 7, 8, 9, 10, 11, 12, 13, 14, 15, 16, 17, 18, 19], [], 0⟩,
  ⟨⟨some 57, .mv (.t 11), (some (56, true))⟩, 0, [0, 1, 2, 3, 4, 5, 6, 7, 8, 9, 10, 11, 12, 13, 14, 15, 16, 17, 18, 19, 20], [], 0⟩,
  ⟨⟨some 58, .bin .eql (.t 57) (.c (.i .i64 (.ofNat 1))), (some (56, true))⟩, 0, [0, 1, 2, 3, 4, 5, 6, 7, 8, 9, 10, 11, 12, 13, 14, 15, 16, 17, 18, 19, 20, 21], [], 0⟩,
  ⟨⟨some 59, .pick (.t 56) (.t 58) (.c (.b false)), none⟩, 0, [0, 1, 2, 3, 4, 5, 6, 7, 8, 9, 10, 11, 12, 13, 14, 15, 16, 17, 18, 19, 20, 21, 22], [], 0⟩,
  ⟨⟨some 60, .mv (.t 59), none⟩, 0, [0, 1, 2, 3, 4, 5, 6, 7, 8, 9, 10, 11, 12, 13, 14, 15, 16, 17, 18, 19, 20, 21, 22, 23], [], 0⟩,
  ⟨⟨some 61, .mv (.t 5), (some (60, true))⟩, 0, [0, 1, 2, 3, 4, 5, 6, 7, 8, 9, 10, 11, 12, 13, 14, 15, 16, 17, 18, 19, 20, 21, 22, 23, 24], [], 0⟩,
  ⟨⟨some 62, .call 21 [(.t 61)], (some (60, true))⟩, 2, [0, 1, 2, 3, 4, 5, 6, 7, 8, 9, 10, 11, 12, 13, 14, 15, 16, 17, 18, 19, 20, 21, 22, 23, 24, 25], [], 0⟩,
  ⟨⟨some 63, .mv (.t 5), (some (60, true))⟩, 0, [0, 1, 2, 3, 4, 5, 6, 7, 8, 9, 10, 11, 12, 13, 14, 15, 16, 17, 18, 19, 20, 21, 22, 23, 24], [], 0⟩,
  ⟨⟨some 64, .call 22 [(.t 63)], (some (60, true))⟩, 2, [0, 1, 2, 3, 4, 5, 6, 7, 8, 9, 10, 11, 12, 13, 14, 15, 16, 17, 18, 19, 20, 21, 22, 23, 24, 25, 26, 27], [], 0⟩,
  ⟨⟨some 65, .bin .add (.t 62) (.t 64), (some (60, true))⟩, 0, [0, 1, 2, 3, 4, 5, 6, 7, 8, 9, 10, 11, 12, 13, 14, 15, 16, 17, 18, 19, 20, 21, 22, 23, 24, 25, 26, 27, 28], [], 0⟩,
  ⟨⟨some 66, .mv (.t 5), (some (60, true))⟩, 0, [0, 1, 2, 3, 4, 5, 6, 7, 8, 9, 10, 11, 12, 13, 14, 15, 16, 17, 18, 19, 20, 21, 22, 23, 24], [], 0⟩,
  ⟨⟨some 67, .ld true 6 (.t 2), (some (60, true))⟩, 1, [0, 1, 2, 3, 4, 5, 6, 7, 8, 9, 10, 11, 12, 13, 14, 15, 16, 17, 18, 19, 20, 21, 22, 23, 24], [], 0⟩,
  ⟨⟨some 68, .call 36 [(.t 66), (.t 67)], (some (60, true))⟩, 2, [0, 1, 2, 3, 4, 5, 6, 7, 8, 9, 10, 11, 12, 13, 14, 15, 16, 17, 18, 19, 20, 21, 22, 23, 24, 25, 26, 27, 28, 30, 31], [], 0⟩,
  ⟨⟨some 69, .bin .add (.t 65) (.t 68), (some (60, true))⟩, 0, [0, 1, 2, 3, 4, 5, 6, 7, 8, 9, 10, 11, 12, 13, 14, 15, 16, 17, 18, 19, 20, 21, 22, 23, 24, 25, 26, 27, 28, 29, 30, 31, 32], [], 0⟩,
  ⟨⟨some 70, .mv (.t 5), (some (60, true))⟩, 0, [0, 1, 2, 3, 4, 5, 6, 7, 8, 9, 10, 11, 12, 13, 14, 15, 16, 17, 18, 19, 20, 21, 22, 23, 24], [], 0⟩,
  ⟨⟨some 71, .mv (.t 1), (some (60, true))⟩, 0, [0, 1, 2, 3, 4, 5, 6, 7, 8, 9, 10, 11, 12, 13, 14, 15, 16, 17, 18, 19, 20, 21, 22, 23, 24], [], 0⟩,
  ⟨⟨some 72, .call 30 [(.t 70), (.t 71)], (some (60, true))⟩, 2, [0, 1, 2, 3, 4, 5, 6, 7, 8, 9, 10, 11, 12, 13, 14, 15, 16, 17, 18, 19, 20, 21, 22, 23, 24, 25, 26, 27, 28, 30, 31, 32, 34, 35], [], 0⟩,
  ⟨⟨some 73, .bin .add (.t 69) (.t 72), (some (60, true))⟩, 0, [0, 1, 2, 3, 4, 5, 6, 7, 8, 9, 10, 11, 12, 13, 14, 15, 16, 17, 18, 19, 20, 21, 22, 23, 24, 25, 26, 27, 28, 29, 30, 31, 32, 33, 34, 35, 36], [], 0⟩,
  ⟨⟨some 74, .bin .eql (.t 73) (.c (.i .i64 (.ofNat 0))), (some (60, true))⟩, 0, [0, 1, 2, 3, 4, 5, 6, 7, 8, 9, 10, 11, 12, 13, 14, 15, 16, 17, 18, 19, 20, 21, 22, 23, 24, 25, 26, 27, 28, 29, 30, 31, 32, 33, 34, 35, 36, 37], [], 0⟩,
  ⟨⟨some 75, .pick (.t 60) (.t 74) (.c (.b false)), none⟩, 0, [0, 1, 2, 3, 4, 5, 6, 7, 8, 9, 10, 11, 12, 13, 14, 15, 16, 17, 18, 19, 20, 21, 22, 23, 24, 25, 26, 27, 28, 29, 30, 31, 32, 33, 34, 35, 36, 37, 38], [], 0⟩,
  ⟨⟨some 76, .mv (.t 75), none⟩, 0, [0, 1, 2, 3, 4, 5, 6, 7, 8, 9, 10, 11, 12, 13, 14, 15, 16, 17, 18, 19, 20, 21, 22, 23, 24, 25, 26, 27, 28, 29, 30, 31, 32, 33, 34, 35, 36, 37, 38, 39], [], 0⟩,
  ⟨⟨some 77, .mv (.t 5), (some (76, true))⟩, 0, [0, 1, 2, 3, 4, 5, 6, 7, 8, 9, 10, 11, 12, 13, 14, 15, 16, 17, 18, 19, 20, 21, 22, 23, 24, 25, 26, 27, 28, 29, 30, 31, 32, 33, 34, 35, 36, 37, 38, 39, 40], [], 0⟩,
  ⟨⟨some 78, .call 25 [(.t 77)], (some (76, true))⟩, 2, [0, 1, 2, 3, 4, 5, 6, 7, 8, 9, 10, 11, 12, 13, 14, 15, 16, 17, 18, 19, 20, 21, 22, 23, 24, 25, 26, 27, 28, 29, 30, 31, 32, 33, 34, 35, 36, 37, 38, 39, 40, 41], [], 0⟩,
  ⟨⟨some 79, .lenS (.t 78), (some (76, true))⟩, 0, [0, 1, 2, 3, 4, 5, 6, 7, 8, 9, 10, 11, 12, 13, 14, 15, 16, 17, 18, 19, 20, 21, 22, 23, 24, 25, 26, 27, 28, 29, 30, 31, 32, 33, 34, 35, 36, 37, 38, 39, 40, 41, 42], [], 0⟩,
  ⟨⟨some 80, .bin .eql (.t 79) (.c (.i .i64 (.ofNat 0))), (some (76, true))⟩, 0, [0, 1, 2, 3, 4, 5, 6, 7, 8, 9, 10, 11, 12, 13, 14, 15, 16, 17, 18, 19, 20, 21, 22, 23, 24, 25, 26, 27, 28, 29, 30, 31, 32, 33, 34, 35, 36, 37, 38, 39, 40, 41, 42, 43], [], 0⟩,
  ⟨⟨some 81, .pick (.t 76) (.t 80) (.c (.b false)), none⟩, 0, [0, 1, 2, 3, 4, 5, 6, 7, 8, 9, 10, 11, 12, 13, 14, 15, 16, 17, 18, 19, 20, 21, 22, 23, 24, 25, 26, 27, 28, 29, 30, 31, 32, 33, 34, 35, 36, 37, 38, 39, 40, 41, 42, 43, 44], [], 0⟩,
  ⟨⟨some 82, .mv (.t 81), none⟩, 0, [0, 1, 2, 3, 4, 5, 6, 7, 8, 9, 10, 11, 12, 13, 14, 15, 16, 17, 18, 19, 20, 21, 22, 23, 24, 25, 26, 27, 28, 29, 30, 31, 32, 33, 34, 35, 36, 37, 38, 39, 40, 41, 42, 43, 44, 45], [], 0⟩,
  ⟨⟨some 83, .ld true 6 (.t 12), (some (82, true))⟩, 1, [0, 1, 2, 3, 4, 5, 6, 7, 8, 9, 10, 11, 12, 13, 14, 15, 16, 17, 18, 19, 20, 21, 22, 23, 24, 25, 26, 27, 28, 29, 30, 31, 32, 33, 34, 35, 36, 37, 38, 39, 40, 41, 42, 43, 44, 45, 46], [], 0⟩,
  ⟨⟨some 84, .build [.i .i64 (.ofNat 0), .i .i64 (.ofNat 0), .i .i64 (.ofNat 0), .i .i64 (.ofNat 0), .i .i64 (.ofNat 0), .i .i64 (.ofNat 0)] [], (some (82, true))⟩, 0, [0, 1, 2, 3, 4, 5, 6, 7, 8, 9, 10, 11, 12, 13, 14, 15, 16, 17, 18, 19, 20, 21, 22, 23, 24, 25, 26, 27, 28, 29, 30, 31, 32, 33, 34, 35, 36, 37, 38, 39, 40, 41, 42, 43, 44, 45, 46], [], 0⟩,
  ⟨⟨some 85, .eqC false [.i .i64, .i .i64, .i .i64, .i .i64, .i .i64, .i .i64] (.t 83) (.t 84), (some (82, true))⟩, 0, [0, 1, 2, 3, 4, 5, 6, 7, 8, 9, 10, 11, 12, 13, 14, 15, 16, 17, 18, 19, 20, 21, 22, 23, 24, 25, 26, 27, 28, 29, 30, 31, 32, 33, 34, 35, 36, 37, 38, 39, 40, 41, 42, 43, 44, 45, 46, 47, 48], [], 0⟩,
  ⟨⟨some 86, .pick (.t 82) (.t 85) (.c (.b false)), none⟩, 0, [0, 1, 2, 3, 4, 5, 6, 7, 8, 9, 10, 11, 12, 13, 14, 15, 16, 17, 18, 19, 20, 21, 22, 23, 24, 25, 26, 27, 28, 29, 30, 31, 32, 33, 34, 35, 36, 37, 38, 39, 40, 41, 42, 43, 44, 45, 46, 47, 48, 49], [], 0⟩,
  ⟨⟨some 87, .mv (.t 86), none⟩, 0, [0, 1, 2, 3, 4, 5, 6, 7, 8, 9, 10, 11, 12, 13, 14, 15, 16, 17, 18, 19, 20, 21, 22, 23, 24, 25, 26, 27, 28, 29, 30, 31, 32, 33, 34, 35, 36, 37, 38, 39, 40, 41, 42, 43, 44, 45, 46, 47, 48, 49, 50], [], 0⟩,
  ⟨⟨some 88, .mv (.t 13), (some (87, true))⟩, 0, [0, 1, 2, 3, 4, 5, 6, 7, 8, 9, 10, 11, 12, 13, 14, 15, 16, 17, 18, 19, 20, 21, 22, 23, 24, 25, 26, 27, 28, 29, 30, 31, 32, 33, 34, 35, 36, 37, 38, 39, 40, 41, 42, 43, 44, 45, 46, 47, 48, 49, 50, 51], [], 0⟩,
  ⟨⟨some 89, .un .not (.t 88), (some (87, true))⟩, 0, [0, 1, 2, 3, 4, 5, 6, 7, 8, 9, 10, 11, 12, 13, 14, 15, 16, 17, 18, 19, 20, 21, 22, 23, 24, 25, 26, 27, 28, 29, 30, 31, 32, 33, 34, 35, 36, 37, 38, 39, 40, 41, 42, 43, 44, 45, 46, 47, 48, 49, 50, 51, 52], [], 0⟩,
  ⟨⟨some 90, .pick (.t 87) (.t 89) (.c (.b false)), none⟩, 0, [0, 1, 2, 3, 4, 5, 6, 7, 8, 9, 10, 11, 12, 13, 14, 15, 16, 17, 18, 19, 20, 21, 22, 23, 24, 25, 26, 27, 28, 29, 30, 31, 32, 33, 34, 35, 36, 37, 38, 39, 40, 41, 42, 43, 44, 45, 46, 47, 48, 49, 50, 51, 52, 53], [], 0⟩,
  ⟨⟨some 4, .mv (.t 90), none⟩, 0, [0, 1, 2, 3, 4, 5, 6, 7, 8, 9, 10, 11, 12, 13, 14, 15, 16, 17, 18, 19, 20, 21, 22, 23, 24, 25, 26, 27, 28, 29, 30, 31, 32, 33, 34, 35, 36, 37, 38, 39, 40, 41, 42, 43, 44, 45, 46, 47, 48, 49, 50, 51, 52, 53, 54], [], 0⟩])
 (.ret))))))), [.t 4]⟩
def d9 : FDef := ⟨74, .seq (.reg [⟨some 0, .mv (.c (.b false)), none⟩])
 (.seq (.reg [⟨some 10, .call 41 [(.c (.i .i64 (.ofNat 1))), (.c (.i .i64 (.ofNat 2)))], none⟩,
  ⟨some 11, .build [.i .i64 (.ofNat 0), .b false, .s [], .b false, .s [], .b false, .s [], .b false, .s [], .b false, .b false, .s [], .b false, .s [], .b false, .s [], .b false, .s [], .b false, .b false, .b false, .b false, .s [], .b false, .s [], .b false, .s [], .b false, .s [], .b false, .s [], .b false, .s [], .b false, .s [], .b false, .s []] [(0, 1, (.c (.i .i64 (.ofNat 3)))), (1, 36, (.t 10))], none⟩,
  ⟨some 12, .buildS 86 37 1 [.i .i64 (.ofNat 0), .b false, .s [], .b false, .s [], .b false, .s [], .b false, .s [], .b false, .b false, .s [], .b false, .s [], .b false, .s [], .b false, .s [], .b false, .b false, .b false, .b false, .s [], .b false, .s [], .b false, .s [], .b false, .s [], .b false, .s [], .b false, .s [], .b false, .s [], .b false, .s []] [(0, 37, (.t 11))], none⟩,
  ⟨some 13, .call 13 [(.t 12)], none⟩,
  ⟨some 9, .mv (.t 13), none⟩,
  ⟨some 14, .ext 0 (.t 9), none⟩,
  ⟨some 15, .ext 1 (.t 9), none⟩,
  ⟨some 1, .mv (.t 14), none⟩,
  ⟨some 2, .mv (.t 15), none⟩])
 (.seq (.reg [⟨some 17, .mv (.t 1), none⟩,
  ⟨some 18, .call 18 [(.t 17)], none⟩,
  ⟨some 16, .mv (.t 18), none⟩,
  ⟨some 19, .ext 0 (.t 16), none⟩,
  ⟨some 20, .ext 1 (.t 16), none⟩,
  ⟨some 3, .mv (.t 19), none⟩,
  ⟨some 4, .mv (.t 20), none⟩])
 (.seq (.reg [⟨some 22, .mv (.t 3), none⟩,
  ⟨some 23, .call 20 [(.t 22)], none⟩,
  ⟨some 21, .mv (.t 23), none⟩,
  ⟨some 24, .ext 0 (.t 21), none⟩,
  ⟨some 25, .ext 1 (.t 21), none⟩,
  ⟨some 5, .mv (.t 24), none⟩,
  ⟨some 6, .mv (.t 25), none⟩])
 (.seq (.reg [⟨some 27, .call 13 [(.c (.sl none 0 0 true))], none⟩,
  ⟨some 26, .mv (.t 27), none⟩,
  ⟨some 28, .ext 0 (.t 26), none⟩,
  ⟨some 29, .ext 1 (.t 26), none⟩,
  ⟨some 7, .mv (.t 28), none⟩,
  ⟨some 8, .mv (.t 29), none⟩])
 (.seq (.dreg 0 [⟨⟨some 30, .mv (.t 2), none⟩, 0, [], [], 0⟩,
  ⟨⟨some 31, .bin .eql (.t 30) (.c (.i .i64 (.ofNat 0))), none⟩, 0, [0], [], 0⟩,
  ⟨⟨some 32, .mv (.t 31), none⟩, 0, [0, 1], [], 0⟩,
  ⟨⟨some 33, .mv (.t 4), (some (32, true))⟩, 0, [0, 1, 2], [], 0⟩,
  ⟨⟨some 34, .bin .eql (.t 33) (.c (.i .i64 (.ofNat 0))), (some (32, true))⟩, 0, [0, 1, 2, 3], [], 0⟩,
  ⟨⟨some 35, .pick (.t 32) (.t 34) (.c (.b false)), none⟩, 0, [0, 1, 2, 3, 4], [], 0⟩,
  ⟨⟨some 36, .mv (.t 35), none⟩, 0, [0, 1, 2, 3, 4, 5], [], 0⟩,
  ⟨⟨some 37, .mv (.t 6), (some (36, true))⟩, 0, [0, 1, 2, 3, 4, 5, 6], [], 0⟩,
  ⟨⟨some 38, .bin .eql (.t 37) (.c (.i .i64 (.ofNat 0))), (some (36, true))⟩, 0, [0, 1, 2, 3, 4, 5, 6, 7], [], 0⟩,
  ⟨⟨some 39, .pick (.t 36) (.t 38) (.c (.b false)), none⟩, 0, [0, 1, 2, 3, 4, 5, 6, 7, 8], [], 0⟩,
  ⟨⟨some 40, .mv (.t 39), none⟩, 0, [0, 1, 2, 3, 4, 5, 6, 7, 8, 9], [], 0⟩,
  ⟨⟨some 41, .mv (.t 5), (some (40, true))⟩, 0, [0, 1, 2, 3, 4, 5, 6, 7, 8, 9, 10], [], 0⟩,
  ⟨⟨some 42, .lenS (.t 41), (some (40, true))⟩, 0, [0, 1, 2, 3, 4, 5, 6, 7, 8, 9, 10, 11], [], 0⟩,
  ⟨⟨some 43, .bin .eql (.t 42) (.c (.i .i64 (.ofNat 1))), (some (40, true))⟩, 0, [0, 1, 2, 3, 4, 5, 6, 7, 8, 9, 10, 11, 12], [], 0⟩,
  ⟨⟨some 44, .pick (.t 40) (.t 43) (.c (.b false)), none⟩, 0, [0, 1, 2, 3, 4, 5, 6, 7, 8, 9, 10, 11, 12, 13], [], 0⟩,
  ⟨⟨some 45, .mv (.t 44), none⟩, 0, [0, 1, 2, 3, 4, 5, 6, 7, 8, 9, 10, 11, 12, 13, 14], [], 0⟩,
  ⟨⟨some 46, .mv (.t 5), (some (45, true))⟩, 0, [0, 1, 2, 3, 4, 5, 6, 7, 8, 9, 10, 11, 12, 13, 14, 15], [], 0⟩,
  ⟨⟨some 47, .iadS 37 (.t 46) (.c (.i .i64 (.ofNat 0))), (some (45, true))⟩, 0, [0, 1, 2, 3, 4, 5, 6, 7, 8, 9, 10, 11, 12, 13, 14, 15, 16], [], 0⟩,
  ⟨⟨some 48, .fad 0 (.t 47), (some (45, true))⟩, 0, [0, 1, 2, 3, 4, 5, 6, 7, 8, 9, 10, 11, 12, 13, 14, 15, 16, 17], [], 0⟩,
  ⟨⟨some 49, .ld false 1 (.t 48), (some (45, true))⟩, 1, [0, 1, 2, 3, 4, 5, 6, 7, 8, 9, 10, 11, 12, 13, 14, 15, 16, 17, 18], [], 0⟩,
  ⟨⟨some 50, .bin .eql (.t 49) (.c (.i .i64 (.ofNat 3))), (some (45, true))⟩, 0, [0, 1, 2, 3, 4, 5, 6, 7, 8, 9, 10, 11, 12, 13, 14, 15, 16, 17, 18, 19], [], 0⟩,
  ⟨⟨some 51, .pick (.t 45) (.t 50) (.c (.b false)), none⟩, 0, [0, 1, 2, 3, 4, 5, 6, 7, 8, 9, 10, 11, 12, 13, 14, 15, 16, 17, 18, 19, 20], [], 0⟩,
  ⟨⟨some 52, .mv (.t 51), none⟩, 0, [0, 1, 2, 3, 4, 5, 6, 7, 8, 9, 10, 11, 12, 13, 14, 15, 16, 17, 18, 19, 20, 21], [], 0⟩,
  ⟨⟨some 53, .mv (.t 5), (some (52, true))⟩, 0, [0, 1, 2, 3, 4, 5, 6, 7, 8, 9, 10, 11, 12, 13, 14, 15, 16, 17, 18, 19, 20, 21, 22], [], 0⟩,
  ⟨⟨some 54, .iadS 37 (.t 53) (.c (.i .i64 (.ofNat 0))), (some (52, true))⟩, 0, [0, 1, 2, 3, 4, 5, 6, 7, 8, 9, 10, 11, 12, 13, 14, 15, 16, 17, 18, 19, 20, 21, 22, 23], [], 0⟩,
  ⟨⟨some 55, .fad 1 (.t 54), (some (52, true))⟩, 0, [0, 1, 2, 3, 4, 5, 6, 7, 8, 9, 10, 11, 12, 13, 14, 15, 16, 17, 18, 19, 20, 21, 22, 23, 24], [], 0⟩,
  ⟨⟨some 56, .ld true 36 (.t 55), (some (52, true))⟩, 1, [0, 1, 2, 3, 4, 5, 6, 7, 8, 9, 10, 11, 12, 13, 14, 15, 16, 17, 18, 19, 20, 21, 22, 23, 24, 25], [], 0⟩,
  ⟨⟨some 57, .call 41 [(.c (.i .i64 (.ofNat 1))), (.c (.i .i64 (.ofNat 2)))], (some (52, true))⟩, 2, [0, 1, 2, 3, 4, 5, 6, 7, 8, 9, 10, 11, 12, 13, 14, 15, 16, 17, 18, 19, 20, 21, 22], [], 0⟩,
  ⟨⟨some 58, .eqC false [.b, .s, .b, .s, .b, .s, .b, .s, .b, .b, .s, .b, .s, .b, .s, .b, .s, .b, .b, .b, .b, .s, .b, .s, .b, .s, .b, .s, .b, .s, .b, .s, .b, .s, .b, .s] (.t 56) (.t 57), (some (52, true))⟩, 0, [0, 1, 2, 3, 4, 5, 6, 7, 8, 9, 10, 11, 12, 13, 14, 15, 16, 17, 18, 19, 20, 21, 22, 23, 24, 25, 26, 27], [], 0⟩,
  ⟨⟨some 59, .pick (.t 52) (.t 58) (.c (.b false)), none⟩, 0, [0, 1, 2, 3, 4, 5, 6, 7, 8, 9, 10, 11, 12, 13, 14, 15, 16, 17, 18, 19, 20, 21, 22, 23, 24, 25, 26, 27, 28], [], 0⟩,
  ⟨⟨some 60, .mv (.t 59), none⟩, 0, [0, 1, 2, 3, 4, 5, 6, 7, 8, 9, 10, 11, 12, 13, 14, 15, 16, 17, 18, 19, 20, 21, 22, 23, 24, 25, 26, 27, 28, 29], [], 0⟩,
  ⟨⟨some 61, .mv (.t 8), (some (60, true))⟩, 0, [0, 1, 2, 3, 4, 5, 6, 7, 8, 9, 10, 11, 12, 13, 14, 15, 16, 17, 18, 19, 20, 21, 22, 23, 24, 25, 26, 27, 28, 29, 30], [], 0⟩,
  ⟨⟨some 62, .bin .eql (.t 61) (.c (.i .i64 (.ofNat 0))), (some (60, true))⟩, 0, [0, 1, 2, 3, 4, 5, 6, 7, 8, 9, 10, 11, 12, 13, 14, 15, 16, 17, 18, 19, 20, 21, 22, 23, 24, 25, 26, 27, 28, 29, 30, 31], [], 0⟩,
  ⟨⟨some 63, .pick (.t 60) (.t 62) (.c (.b false)), none⟩, 0, [0, 1, 2, 3, 4, 5, 6, 7, 8, 9, 10, 11, 12, 13, 14, 15, 16, 17, 18, 19, 20, 21, 22, 23, 24, 25, 26, 27, 28, 29, 30, 31, 32], [], 0⟩,
  ⟨⟨some 64, .mv (.t 63), none⟩, 0, [0, 1, 2, 3, 4, 5, 6, 7, 8, 9, 10, 11, 12, 13, 14, 15, 16, 17, 18, 19, 20, 21, 22, 23, 24, 25, 26, 27, 28, 29, 30, 31, 32, 33], [], 0⟩,
  ⟨⟨some 65, .mv (.t 7), (some (64, true))⟩, 0, [0, 1, 2, 3, 4, 5, 6, 7, 8, 9, 10, 11, 12, 13, 14, 15, 16, 17, 18, 19, 20, 21, 22, 23, 24, 25, 26, 27, 28, 29, 30, 31, 32, 33, 34], [], 0⟩,
  ⟨⟨some 66, .mv (.t 1), (some (64, true))⟩, 0, [0, 1, 2, 3, 4, 5, 6, 7, 8, 9, 10, 11, 12, 13, 14, 15, 16, 17, 18, 19, 20, 21, 22, 23, 24, 25, 26, 27, 28, 29, 30, 31, 32, 33, 34], [], 0⟩,
  ⟨⟨some 67, .bin .neq (.t 65) (.t 66), (some (64, true))⟩, 0, [0, 1, 2, 3, 4, 5, 6, 7, 8, 9, 10, 11, 12, 13, 14, 15, 16, 17, 18, 19, 20, 21, 22, 23, 24, 25, 26, 27, 28, 29, 30, 31, 32, 33, 34, 35, 36], [], 0⟩,
  ⟨⟨some 68, .pick (.t 64) (.t 67) (.c (.b false)), none⟩, 0, [0, 1, 2, 3, 4, 5, 6, 7, 8, 9, 10, 11, 12, 13, 14, 15, 16, 17, 18, 19, 20, 21, 22, 23, 24, 25, 26, 27, 28, 29, 30, 31, 32, 33, 34, 35, 36, 37], [], 0⟩,
  ⟨⟨some 69, .mv (.t 68), none⟩, 0, [0, 1, 2, 3, 4, 5, 6, 7, 8, 9, 10, 11, 12, 13, 14, 15, 16, 17, 18, 19, 20, 21, 22, 23, 24, 25, 26, 27, 28, 29, 30, 31, 32, 33, 34, 35, 36, 37, 38], [], 0⟩,
  ⟨⟨some 70, .mv (.t 7), (some (69, true))⟩, 0, [0, 1, 2, 3, 4, 5, 6, 7, 8, 9, 10, 11, 12, 13, 14, 15, 16, 17, 18, 19, 20, 21, 22, 23, 24, 25, 26, 27, 28, 29, 30, 31, 32, 33, 34, 35, 36, 37, 38, 39], [], 0⟩,
  ⟨⟨some 71, .call 19 [(.t 70)], (some (69, true))⟩, 2, [0, 1, 2, 3, 4, 5, 6, 7, 8, 9, 10, 11, 12, 13, 14, 15, 16, 17, 18, 19, 20, 21, 22, 23, 24, 25, 26, 27, 28, 29, 30, 31, 32, 33, 34, 35, 36, 37, 38, 39, 40], [], 0⟩,
  ⟨⟨some 72, .bin .eql (.t 71) (.c (.i .i64 (.ofNat 0))), (some (69, true))⟩, 0, [0, 1, 2, 3, 4, 5, 6, 7, 8, 9, 10, 11, 12, 13, 14, 15, 16, 17, 18, 19, 20, 21, 22, 23, 24, 25, 26, 27, 28, 29, 30, 31, 32, 33, 34, 35, 36, 37, 38, 39, 40, 41], [], 0⟩,
  ⟨⟨some 73, .pick (.t 69) (.t 72) (.c (.b false)), none⟩, 0, [0, 1, 2, 3, 4, 5, 6, 7, 8, 9, 10, 11, 12, 13, 14, 15, 16, 17, 18, 19, 20, 21, 22, 23, 24, 25, 26, 27, 28, 29, 30, 31, 32, 33, 34, 35, 36, 37, 38, 39, 40, 41, 42], [], 0⟩,
  ⟨⟨some 0, .mv (.t 73), none⟩, 0, [0, 1, 2, 3, 4, 5, 6, 7, 8, 9, 10, 11, 12, 13, 14, 15, 16, 17, 18, 19, 20, 21, 22, 23, 24, 25, 26, 27, 28, 29, 30, 31, 32, 33, 34, 35, 36, 37, 38, 39, 40, 41, 42, 43], [], 0⟩])
 (.ret)))))), [.t 0]⟩
def d10 : FDef := ⟨29, .seq (.reg [⟨some 1, .box 25 2 (.t 0), none⟩,
  ⟨some 2, .mv (.c (.b false)), none⟩])
 (.seq (.seq (.reg [⟨some 3, .mv (.c (.i .i64 (.ofNat 0))), none⟩])
 (.block 0 (.loop (.seq (.seq (.reg [⟨some 4, .mv (.t 3), none⟩,
  ⟨some 5, .fad 0 (.t 1), none⟩,
  ⟨some 6, .ld false 1 (.t 5), none⟩,
  ⟨some 7, .lenS (.t 6), none⟩,
  ⟨some 8, .bin .lss (.t 4) (.t 7), none⟩])
 (.cond (.t 8) (.skip)
 (.exit 0)))
 (.seq (.block 1 (.seq (.reg [⟨some 11, .fad 0 (.t 1), none⟩,
  ⟨some 12, .ld false 1 (.t 11), none⟩,
  ⟨some 13, .mv (.t 3), none⟩,
  ⟨some 14, .iadS 4 (.t 12) (.t 13), none⟩,
  ⟨some 15, .fad 3 (.t 14), none⟩,
  ⟨some 16, .ld false 1 (.t 15), none⟩,
  ⟨some 17, .lenS (.t 16), none⟩,
  ⟨some 18, .bin .gtr (.t 17) (.c (.i .i64 (.ofNat 6))), none⟩])
 (.cond (.t 18) (.seq (.reg [⟨some 2, .mv (.c (.b false)), none⟩])
 (.ret))
 (.skip))))
 (.reg [⟨some 9, .mv (.t 3), none⟩,
  ⟨some 10, .bin .add (.t 9) (.c (.i .i64 (.ofNat 1))), none⟩,
  ⟨some 3, .mv (.t 10), none⟩]))))))
 (.seq (.reg [⟨some 19, .fad 0 (.t 1), none⟩,
  ⟨some 20, .ld false 1 (.t 19), none⟩,
  ⟨some 21, .lenS (.t 20), none⟩,
  ⟨some 22, .bin .leq (.t 21) (.c (.i .i64 (.ofNat 4))), none⟩,
  ⟨some 23, .mv (.t 22), none⟩,
  ⟨some 24, .fad 1 (.t 1), (some (23, true))⟩,
  ⟨some 25, .ld false 1 (.t 24), (some (23, true))⟩,
  ⟨some 26, .lenS (.t 25), (some (23, true))⟩,
  ⟨some 27, .bin .leq (.t 26) (.c (.i .i64 (.ofNat 2))), (some (23, true))⟩,
  ⟨some 28, .pick (.t 23) (.t 27) (.c (.b false)), none⟩,
  ⟨some 2, .mv (.t 28), none⟩])
 (.ret))), [.t 2]⟩
def d11 : FDef := ⟨120, .seq (.reg [⟨some 3, .box 28 3 (.t 1), none⟩,
  ⟨some 4, .mv (.c (.sl none 0 0 true)), none⟩])
 (.seq (.reg [⟨some 7, .buildS 86 37 0 [.i .i64 (.ofNat 0), .b false, .s [], .b false, .s [], .b false, .s [], .b false, .s [], .b false, .b false, .s [], .b false, .s [], .b false, .s [], .b false, .s [], .b false, .b false, .b false, .b false, .s [], .b false, .s [], .b false, .s [], .b false, .s [], .b false, .s [], .b false, .s [], .b false, .s [], .b false, .s []] [], none⟩,
  ⟨some 8, .mv (.t 0), none⟩,
  ⟨some 9, .app 86 37 416 (.t 7) (.t 8), none⟩,
  ⟨some 5, .mv (.t 9), none⟩])
 (.seq (.seq (.reg [⟨some 10, .mv (.t 5), none⟩,
  ⟨some 11, .lenS (.t 10), none⟩,
  ⟨some 12, .bin .eql (.t 11) (.c (.i .i64 (.ofNat 0))), none⟩])
 (.cond (.t 12) (.seq (.reg [⟨some 13, .mv (.t 5), none⟩,
  ⟨some 4, .mv (.t 13), none⟩])
 (.ret))
 (.skip)))
 (.seq (.reg [⟨some 14, .fad 0 (.t 3), none⟩,
  ⟨some 15, .ld false 1 (.t 14), none⟩,
  ⟨some 16, .conv .i64 (.t 15), none⟩,
  ⟨some 17, .mv (.t 5), none⟩,
  ⟨some 18, .lenS (.t 17), none⟩,
  ⟨some 19, .bin .rem (.t 16) (.t 18), none⟩,
  ⟨some 6, .mv (.t 19), none⟩])
 (.seq (.seq (.reg [⟨some 20, .fad 1 (.t 3), none⟩,
  ⟨some 21, .ld false 1 (.t 20), none⟩,
  ⟨some 22, .bin .rem (.t 21) (.c (.i .u8 (.ofNat 8))), none⟩])
 (.block 0 (.seq (.reg [⟨some 24, .bin .eql (.t 22) (.c (.i .u8 (.ofNat 0))), none⟩,
  ⟨some 23, .mv (.t 24), none⟩])
 (.cond (.t 23) (.dreg 0 [⟨⟨some 25, .mv (.t 5), none⟩, 0, [], [], 0⟩,
  ⟨⟨some 26, .mv (.t 6), none⟩, 0, [], [], 0⟩,
  ⟨⟨some 27, .iadS 37 (.t 25) (.t 26), none⟩, 0, [0, 1], [], 0⟩,
  ⟨⟨some 28, .fad 0 (.t 27), none⟩, 0, [0, 1, 2], [], 0⟩,
  ⟨⟨some 29, .ld false 1 (.t 28), none⟩, 1, [0, 1, 2, 3], [], 0⟩,
  ⟨⟨some 30, .fad 2 (.t 3), none⟩, 0, [], [], 0⟩,
  ⟨⟨some 31, .ld false 1 (.t 30), none⟩, 1, [5], [], 0⟩,
  ⟨⟨some 32, .conv .i64 (.t 31), none⟩, 0, [5, 6], [], 0⟩,
  ⟨⟨some 33, .bin .add (.t 29) (.t 32), none⟩, 0, [0, 1, 2, 3, 4, 5, 6, 7], [], 0⟩,
  ⟨⟨some 34, .iadS 37 (.t 25) (.t 26), none⟩, 0, [0, 1, 2, 3, 4, 5, 6, 7, 8], [], 0⟩,
  ⟨⟨some 35, .fad 0 (.t 34), none⟩, 0, [0, 1, 2, 3, 4, 5, 6, 7, 8, 9], [], 0⟩,
  ⟨⟨none, .st 1 (.t 35) (.t 33), none⟩, 2, [0, 1, 2, 3, 4, 5, 6, 7, 8, 9, 10], [], 0⟩])
 (.seq (.reg [⟨some 37, .bin .eql (.t 22) (.c (.i .u8 (.ofNat 1))), none⟩,
  ⟨some 36, .mv (.t 37), none⟩])
 (.cond (.t 36) (.dreg 0 [⟨⟨some 38, .mv (.t 5), none⟩, 0, [], [], 0⟩,
  ⟨⟨some 39, .mv (.t 6), none⟩, 0, [], [], 0⟩,
  ⟨⟨some 40, .mv (.t 5), none⟩, 0, [], [], 0⟩,
  ⟨⟨some 41, .mv (.t 6), none⟩, 0, [], [], 0⟩,
  ⟨⟨some 42, .iadS 37 (.t 40) (.t 41), none⟩, 0, [2, 3], [], 0⟩,
  ⟨⟨some 43, .fad 1 (.t 42), none⟩, 0, [2, 3, 4], [], 0⟩,
  ⟨⟨some 44, .fad 20 (.t 43), none⟩, 0, [2, 3, 4, 5], [], 0⟩,
  ⟨⟨some 45, .fad 0 (.t 44), none⟩, 0, [2, 3, 4, 5, 6], [], 0⟩,
  ⟨⟨some 46, .ld true 4 (.t 45), none⟩, 1, [2, 3, 4, 5, 6, 7], [], 0⟩,
  ⟨⟨some 47, .fad 2 (.t 3), none⟩, 0, [], [], 0⟩,
  ⟨⟨some 48, .ld false 1 (.t 47), none⟩, 1, [9], [], 0⟩,
  ⟨⟨some 49, .conv .i64 (.t 48), none⟩, 0, [9, 10], [], 0⟩,
  ⟨⟨some 50, .call 43 [(.t 49)], none⟩, 2, [9, 10, 11], [], 0⟩,
  ⟨⟨some 51, .call 42 [(.t 46), (.t 50)], none⟩, 2, [2, 3, 4, 5, 6, 7, 8, 9, 10, 11, 12], [], 0⟩,
  ⟨⟨some 52, .iadS 37 (.t 38) (.t 39), none⟩, 0, [0, 1, 2, 3, 4, 5, 6, 7, 8, 9, 10, 11, 12, 13], [], 0⟩,
  ⟨⟨some 53, .fad 1 (.t 52), none⟩, 0, [0, 1, 2, 3, 4, 5, 6, 7, 8, 9, 10, 11, 12, 13, 14], [], 0⟩,
  ⟨⟨some 54, .fad 20 (.t 53), none⟩, 0, [0, 1, 2, 3, 4, 5, 6, 7, 8, 9, 10, 11, 12, 13, 14, 15], [], 0⟩,
  ⟨⟨some 55, .fad 0 (.t 54), none⟩, 0, [0, 1, 2, 3, 4, 5, 6, 7, 8, 9, 10, 11, 12, 13, 14, 15, 16], [], 0⟩,
  ⟨⟨none, .st 4 (.t 55) (.t 51), none⟩, 2, [0, 1, 2, 3, 4, 5, 6, 7, 8, 9, 10, 11, 12, 13, 14, 15, 16, 17], [], 0⟩])
 (.seq (.reg [⟨some 57, .bin .eql (.t 22) (.c (.i .u8 (.ofNat 2))), none⟩,
  ⟨some 56, .mv (.t 57), none⟩])
 (.cond (.t 56) (.dreg 0 [⟨⟨some 58, .mv (.t 5), none⟩, 0, [], [], 0⟩,
  ⟨⟨some 59, .mv (.t 6), none⟩, 0, [], [], 0⟩,
  ⟨⟨some 60, .slcS 37 (.t 58) none (some (.t 59)) none, none⟩, 1, [0, 1], [], 0⟩,
  ⟨⟨some 61, .mv (.t 5), none⟩, 0, [], [], 0⟩,
  ⟨⟨some 62, .mv (.t 6), none⟩, 0, [], [], 0⟩,
  ⟨⟨some 63, .bin .add (.t 62) (.c (.i .i64 (.ofNat 1))), none⟩, 0, [4], [], 0⟩,
  ⟨⟨some 64, .slcS 37 (.t 61) (some (.t 63)) none none, none⟩, 1, [3, 4, 5], [], 0⟩,
  ⟨⟨some 65, .app 86 37 416 (.t 60) (.t 64), none⟩, 2, [0, 1, 2, 3, 4, 5, 6], [], 0⟩,
  ⟨⟨some 5, .mv (.t 65), none⟩, 0, [0, 1, 2, 3, 4, 5, 6, 7], [], 0⟩])
 (.seq (.reg [⟨some 67, .bin .eql (.t 22) (.c (.i .u8 (.ofNat 3))), none⟩,
  ⟨some 66, .mv (.t 67), none⟩])
 (.cond (.t 66) (.reg [⟨some 68, .mv (.t 5), none⟩,
  ⟨some 69, .mv (.t 5), none⟩,
  ⟨some 70, .mv (.t 6), none⟩,
  ⟨some 71, .iadS 37 (.t 69) (.t 70), none⟩,
  ⟨some 72, .ld true 37 (.t 71), none⟩,
  ⟨some 73, .buildS 86 37 1 [.i .i64 (.ofNat 0), .b false, .s [], .b false, .s [], .b false, .s [], .b false, .s [], .b false, .b false, .s [], .b false, .s [], .b false, .s [], .b false, .s [], .b false, .b false, .b false, .b false, .s [], .b false, .s [], .b false, .s [], .b false, .s [], .b false, .s [], .b false, .s [], .b false, .s [], .b false, .s []] [(0, 37, (.t 72))], none⟩,
  ⟨some 74, .app 86 37 416 (.t 68) (.t 73), none⟩,
  ⟨some 5, .mv (.t 74), none⟩])
 (.seq (.reg [⟨some 76, .bin .eql (.t 22) (.c (.i .u8 (.ofNat 4))), none⟩,
  ⟨some 75, .mv (.t 76), none⟩])
 (.cond (.t 75) (.dreg 0 [⟨⟨some 77, .mv (.t 5), none⟩, 0, [], [], 0⟩,
  ⟨⟨some 78, .mv (.t 5), none⟩, 0, [], [], 0⟩,
  ⟨⟨some 79, .mv (.t 6), none⟩, 0, [], [], 0⟩,
  ⟨⟨some 80, .mv (.t 5), none⟩, 0, [], [], 0⟩,
  ⟨⟨some 81, .mv (.t 6), none⟩, 0, [], [], 0⟩,
  ⟨⟨some 82, .iadS 37 (.t 80) (.t 81), none⟩, 0, [3, 4], [], 0⟩,
  ⟨⟨some 83, .ld true 37 (.t 82), none⟩, 1, [3, 4, 5], [], 0⟩,
  ⟨⟨some 84, .mv (.t 5), none⟩, 0, [], [], 0⟩,
  ⟨⟨some 85, .iadS 37 (.t 84) (.c (.i .i64 (.ofNat 0))), none⟩, 0, [7], [], 0⟩,
  ⟨⟨some 86, .ld true 37 (.t 85), none⟩, 1, [7, 8], [], 0⟩,
  ⟨⟨some 87, .iadS 37 (.t 77) (.c (.i .i64 (.ofNat 0))), none⟩, 0, [0, 3, 4, 5, 6, 7, 8, 9], [], 0⟩,
  ⟨⟨none, .st 37 (.t 87) (.t 83), none⟩, 2, [0, 3, 4, 5, 6, 7, 8, 9, 10], [], 0⟩,
  ⟨⟨some 88, .iadS 37 (.t 78) (.t 79), none⟩, 0, [0, 1, 2, 3, 4, 5, 6, 7, 8, 9, 10, 11], [], 0⟩,
  ⟨⟨none, .st 37 (.t 88) (.t 86), none⟩, 2, [0, 1, 2, 3, 4, 5, 6, 7, 8, 9, 10, 11, 12], [], 0⟩])
 (.seq (.reg [⟨some 90, .bin .eql (.t 22) (.c (.i .u8 (.ofNat 5))), none⟩,
  ⟨some 89, .mv (.t 90), none⟩])
 (.cond (.t 89) (.reg [⟨some 91, .mv (.t 5), none⟩,
  ⟨some 92, .mv (.t 6), none⟩,
  ⟨some 93, .mv (.t 5), none⟩,
  ⟨some 94, .mv (.t 6), none⟩,
  ⟨some 95, .iadS 37 (.t 93) (.t 94), none⟩,
  ⟨some 96, .fad 1 (.t 95), none⟩,
  ⟨some 97, .fad 0 (.t 96), none⟩,
  ⟨some 98, .fad 19 (.t 97), none⟩,
  ⟨some 99, .ld false 1 (.t 98), none⟩,
  ⟨some 100, .un .not (.t 99), none⟩,
  ⟨some 101, .iadS 37 (.t 91) (.t 92), none⟩,
  ⟨some 102, .fad 1 (.t 101), none⟩,
  ⟨some 103, .fad 0 (.t 102), none⟩,
  ⟨some 104, .fad 19 (.t 103), none⟩,
  ⟨none, .st 1 (.t 104) (.t 100), none⟩])
 (.seq (.reg [⟨some 106, .bin .eql (.t 22) (.c (.i .u8 (.ofNat 6))), none⟩,
  ⟨some 105, .mv (.t 106), none⟩])
 (.cond (.t 105) (.reg [⟨some 107, .mv (.t 5), none⟩,
  ⟨some 108, .mv (.t 6), none⟩,
  ⟨some 109, .fad 2 (.t 3), none⟩,
  ⟨some 110, .ld false 1 (.t 109), none⟩,
  ⟨some 111, .conv .i64 (.t 110), none⟩,
  ⟨some 112, .call 43 [(.t 111)], none⟩,
  ⟨some 113, .call 43 [(.c (.i .i64 (.ofNat 1099511627776)))], none⟩,
  ⟨some 114, .call 44 [(.t 112), (.t 113)], none⟩,
  ⟨some 115, .iadS 37 (.t 107) (.t 108), none⟩,
  ⟨some 116, .fad 1 (.t 115), none⟩,
  ⟨some 117, .fad 20 (.t 116), none⟩,
  ⟨some 118, .fad 8 (.t 117), none⟩,
  ⟨none, .st 4 (.t 118) (.t 114), none⟩])
 (.skip)))))))))))))))))
 (.seq (.reg [⟨some 119, .mv (.t 5), none⟩,
  ⟨some 4, .mv (.t 119), none⟩])
 (.ret)))))), [.t 4]⟩
def d12 : FDef := ⟨52, .seq (.reg [⟨some 2, .box 25 2 (.t 0), none⟩,
  ⟨some 4, .mv (.c (.sl none 0 0 true)), none⟩])
 (.seq (.reg [⟨some 5, .mv (.c (.sl none 0 0 true)), none⟩])
 (.seq (.reg [⟨some 10, .ld true 2 (.t 2), none⟩,
  ⟨some 11, .call 45 [(.t 10)], none⟩,
  ⟨some 6, .mv (.t 11), none⟩])
 (.seq (.seq (.reg [⟨some 7, .mv (.c (.i .i64 (.ofNat 0))), none⟩])
 (.block 0 (.loop (.seq (.seq (.reg [⟨some 12, .mv (.t 7), none⟩,
  ⟨some 13, .mv (.t 1), none⟩,
  ⟨some 14, .bin .lss (.t 12) (.t 13), none⟩])
 (.cond (.t 14) (.skip)
 (.exit 0)))
 (.seq (.block 1 (.seq (.reg [⟨some 8, .mv (.c (.i .i64 (.ofNat 0))), none⟩])
 (.block 2 (.loop (.seq (.seq (.reg [⟨some 17, .mv (.t 8), none⟩,
  ⟨some 18, .mv (.t 6), none⟩,
  ⟨some 19, .lenS (.t 18), none⟩,
  ⟨some 20, .bin .lss (.t 17) (.t 19), none⟩])
 (.cond (.t 20) (.skip)
 (.exit 2)))
 (.seq (.block 3 (.seq (.reg [⟨some 9, .mv (.c (.i .i64 (.ofNat 0))), none⟩])
 (.block 4 (.loop (.seq (.seq (.reg [⟨some 23, .mv (.t 9), none⟩,
  ⟨some 24, .mv (.t 6), none⟩,
  ⟨some 25, .mv (.t 8), none⟩,
  ⟨some 26, .iadS 2 (.t 24) (.t 25), none⟩,
  ⟨some 27, .fad 1 (.t 26), none⟩,
  ⟨some 28, .ld false 1 (.t 27), none⟩,
  ⟨some 29, .lenS (.t 28), none⟩,
  ⟨some 30, .bin .lss (.t 23) (.t 29), none⟩])
 (.cond (.t 30) (.skip)
 (.exit 4)))
 (.seq (.block 5 (.reg [⟨some 33, .mv (.t 5), none⟩,
  ⟨some 34, .mv (.t 7), none⟩,
  ⟨some 35, .bin .mul (.t 34) (.c (.i .i64 (.ofNat 8))), none⟩,
  ⟨some 36, .bin .add (.c (.i .i64 (.ofNat 1))) (.t 35), none⟩,
  ⟨some 37, .mv (.t 8), none⟩,
  ⟨some 38, .bin .mul (.c (.i .i64 (.ofNat 2))) (.t 37), none⟩,
  ⟨some 39, .bin .add (.t 36) (.t 38), none⟩,
  ⟨some 40, .mv (.t 6), none⟩,
  ⟨some 41, .mv (.t 8), none⟩,
  ⟨some 42, .iadS 2 (.t 40) (.t 41), none⟩,
  ⟨some 43, .fad 1 (.t 42), none⟩,
  ⟨some 44, .ld false 1 (.t 43), none⟩,
  ⟨some 45, .mv (.t 9), none⟩,
  ⟨some 46, .iadS 36 (.t 44) (.t 45), none⟩,
  ⟨some 47, .ld true 36 (.t 46), none⟩,
  ⟨some 48, .build [.i .i64 (.ofNat 0), .b false, .s [], .b false, .s [], .b false, .s [], .b false, .s [], .b false, .b false, .s [], .b false, .s [], .b false, .s [], .b false, .s [], .b false, .b false, .b false, .b false, .s [], .b false, .s [], .b false, .s [], .b false, .s [], .b false, .s [], .b false, .s [], .b false, .s [], .b false, .s []] [(0, 1, (.t 39)), (1, 36, (.t 47))], none⟩,
  ⟨some 49, .buildS 86 37 1 [.i .i64 (.ofNat 0), .b false, .s [], .b false, .s [], .b false, .s [], .b false, .s [], .b false, .b false, .s [], .b false, .s [], .b false, .s [], .b false, .s [], .b false, .b false, .b false, .b false, .s [], .b false, .s [], .b false, .s [], .b false, .s [], .b false, .s [], .b false, .s [], .b false, .s [], .b false, .s []] [(0, 37, (.t 48))], none⟩,
  ⟨some 50, .app 86 37 416 (.t 33) (.t 49), none⟩,
  ⟨some 5, .mv (.t 50), none⟩]))
 (.reg [⟨some 31, .mv (.t 9), none⟩,
  ⟨some 32, .bin .add (.t 31) (.c (.i .i64 (.ofNat 1))), none⟩,
  ⟨some 9, .mv (.t 32), none⟩])))))))
 (.reg [⟨some 21, .mv (.t 8), none⟩,
  ⟨some 22, .bin .add (.t 21) (.c (.i .i64 (.ofNat 1))), none⟩,
  ⟨some 8, .mv (.t 22), none⟩])))))))
 (.reg [⟨some 15, .mv (.t 7), none⟩,
  ⟨some 16, .bin .add (.t 15) (.c (.i .i64 (.ofNat 1))), none⟩,
  ⟨some 7, .mv (.t 16), none⟩]))))))
 (.seq (.reg [⟨some 51, .mv (.t 5), none⟩,
  ⟨some 4, .mv (.t 51), none⟩])
 (.ret))))), [.t 4]⟩
def d13 : FDef := ⟨75, .seq (.reg [⟨some 2, .mv (.c (.s [])), none⟩,
  ⟨some 3, .mv (.c (.i .i64 (.ofNat 0))), none⟩])
 (.seq (.seq (.reg [⟨some 15, .mv (.t 0), none⟩,
  ⟨some 16, .call 15 [(.t 15)], none⟩,
  ⟨some 4, .mv (.t 16), none⟩])
 (.seq (.reg [⟨some 17, .mv (.t 4), none⟩,
  ⟨some 18, .bin .neq (.t 17) (.c (.i .i64 (.ofNat 0))), none⟩])
 (.cond (.t 18) (.seq (.reg [⟨some 19, .mv (.t 4), none⟩,
  ⟨some 2, .mv (.c (.s [])), none⟩,
  ⟨some 3, .mv (.t 19), none⟩])
 (.ret))
 (.skip))))
 (.seq (.reg [⟨some 5, .new 109 2 [.p none, .sl none 0 0 true], none⟩,
  ⟨some 6, .new 109 2 [.p none, .sl none 0 0 true], none⟩])
 (.seq (.reg [⟨some 20, .mv (.t 0), none⟩,
  ⟨some 21, .lenS (.t 20), none⟩,
  ⟨some 22, .call 47 [(.t 21)], none⟩,
  ⟨some 23, .call 46 [(.t 5), (.t 22)], none⟩])
 (.seq (.seq (.reg [⟨some 24, .mv (.t 0), none⟩,
  ⟨some 25, .call 48 [(.t 24), (.c (.i .i64 (.ofNat 16)))], none⟩])
 (.block 0 (.rng (.t 25) [26] (.reg [⟨some 7, .mv (.t 26), none⟩]) (.block 1 (.seq (.reg [⟨some 27, .mv (.t 7), none⟩,
  ⟨some 28, .call 49 [(.t 27)], none⟩,
  ⟨some 8, .mv (.t 28), none⟩])
 (.seq (.reg [⟨some 29, .mv (.t 8), none⟩,
  ⟨some 30, .lenT (.t 29), none⟩,
  ⟨some 31, .call 47 [(.t 30)], none⟩,
  ⟨some 32, .call 46 [(.t 5), (.t 31)], none⟩])
 (.seq (.seq (.reg [⟨some 33, .mv (.t 7), none⟩,
  ⟨some 34, .call 51 [(.t 33)], none⟩,
  ⟨some 35, .call 50 [(.t 34)], none⟩,
  ⟨some 36, .mv (.c (.i .i64 (.ofNat 0))), none⟩])
 (.block 2 (.loop (.seq (.reg [⟨some 37, .bin .lss (.t 36) (.c (.i .i64 (.ofNat 6))), none⟩])
 (.seq (.cond (.t 37) (.skip)
 (.exit 2))
 (.seq (.block 3 (.seq (.reg [⟨some 38, .idxA 6 1 false (.t 35) (.t 36), none⟩,
  ⟨some 10, .mv (.t 38), none⟩])
 (.reg [⟨some 39, .mv (.t 10), none⟩,
  ⟨some 40, .call 47 [(.t 39)], none⟩,
  ⟨some 41, .call 46 [(.t 5), (.t 40)], none⟩])))
 (.reg [⟨some 42, .bin .add (.t 36) (.c (.i .i64 (.ofNat 1))), none⟩,
  ⟨some 36, .mv (.t 42), none⟩])))))))
 (.seq (.reg [⟨some 43, .mv (.t 7), none⟩,
  ⟨some 44, .call 52 [(.t 43)], none⟩,
  ⟨some 11, .mv (.t 44), none⟩])
 (.seq (.reg [⟨some 45, .mv (.t 11), none⟩,
  ⟨some 46, .lenS (.t 45), none⟩,
  ⟨some 47, .call 47 [(.t 46)], none⟩,
  ⟨some 48, .call 46 [(.t 5), (.t 47)], none⟩])
 (.seq (.seq (.reg [⟨some 49, .mv (.t 11), none⟩,
  ⟨some 50, .lenS (.t 49), none⟩,
  ⟨some 51, .mv (.c (.i .i64 (.ofNat 0))), none⟩])
 (.block 4 (.loop (.seq (.reg [⟨some 52, .bin .lss (.t 51) (.t 50), none⟩])
 (.seq (.cond (.t 52) (.skip)
 (.exit 4))
 (.seq (.block 5 (.seq (.reg [⟨some 53, .iadS 1 (.t 49) (.t 51), none⟩,
  ⟨some 54, .ld false 1 (.t 53), none⟩,
  ⟨some 13, .mv (.t 54), none⟩])
 (.reg [⟨some 55, .mv (.t 13), none⟩,
  ⟨some 56, .call 47 [(.t 55)], none⟩,
  ⟨some 57, .call 46 [(.t 5), (.t 56)], none⟩])))
 (.reg [⟨some 58, .bin .add (.t 51) (.c (.i .i64 (.ofNat 1))), none⟩,
  ⟨some 51, .mv (.t 58), none⟩])))))))
 (.reg [⟨some 59, .mv (.t 8), none⟩,
  ⟨some 60, .mv (.t 8), none⟩,
  ⟨some 61, .call 53 [(.t 60)], none⟩,
  ⟨some 62, .bin .add (.t 59) (.t 61), none⟩,
  ⟨some 63, .call 46 [(.t 6), (.t 62)], none⟩])))))))))))
 (.seq (.reg [⟨some 64, .call 54 [(.t 5)], none⟩,
  ⟨some 65, .call 47 [(.t 64)], none⟩,
  ⟨some 66, .bin .add (.c (.s [86, 83, 71, 49])) (.t 65), none⟩,
  ⟨some 67, .call 55 [(.t 5)], none⟩,
  ⟨some 68, .bin .add (.t 66) (.t 67), none⟩,
  ⟨some 14, .mv (.t 68), none⟩])
 (.seq (.reg [⟨some 69, .mv (.t 14), none⟩,
  ⟨some 70, .mv (.t 14), none⟩,
  ⟨some 71, .call 53 [(.t 70)], none⟩,
  ⟨some 72, .bin .add (.t 69) (.t 71), none⟩,
  ⟨some 73, .call 55 [(.t 6)], none⟩,
  ⟨some 74, .bin .add (.t 72) (.t 73), none⟩,
  ⟨some 2, .mv (.t 74), none⟩,
  ⟨some 3, .mv (.c (.i .i64 (.ofNat 0))), none⟩])
 (.ret))))))), [.t 2, .t 3]⟩
def d14 : FDef := ⟨70, .seq (.reg [⟨some 2, .mv (.c (.i .i64 (.ofNat 0))), none⟩])
 (.seq (.seq (.reg [⟨some 10, .mv (.t 0), none⟩,
  ⟨some 11, .lenS (.t 10), none⟩,
  ⟨some 12, .bin .gtr (.t 11) (.c (.i .i64 (.ofNat 4096))), none⟩])
 (.cond (.t 12) (.seq (.reg [⟨some 2, .mv (.c (.i .i64 (.ofNat 3))), none⟩])
 (.ret))
 (.skip)))
 (.seq (.seq (.reg [⟨some 3, .mv (.c (.i .i64 (.ofNat 1))), none⟩])
 (.block 0 (.loop (.seq (.seq (.reg [⟨some 13, .mv (.t 3), none⟩,
  ⟨some 14, .mv (.t 0), none⟩,
  ⟨some 15, .lenS (.t 14), none⟩,
  ⟨some 16, .bin .lss (.t 13) (.t 15), none⟩])
 (.cond (.t 16) (.skip)
 (.exit 0)))
 (.seq (.block 1 (.seq (.dreg 0 [⟨⟨some 19, .mv (.t 0), none⟩, 0, [], [], 0⟩,
  ⟨⟨some 20, .mv (.t 3), none⟩, 0, [], [], 0⟩,
  ⟨⟨some 21, .iadS 37 (.t 19) (.t 20), none⟩, 0, [0, 1], [], 0⟩,
  ⟨⟨some 22, .fad 0 (.t 21), none⟩, 0, [0, 1, 2], [], 0⟩,
  ⟨⟨some 23, .ld false 1 (.t 22), none⟩, 1, [0, 1, 2, 3], [], 0⟩,
  ⟨⟨some 24, .mv (.t 0), none⟩, 0, [], [], 0⟩,
  ⟨⟨some 25, .mv (.t 3), none⟩, 0, [], [], 0⟩,
  ⟨⟨some 26, .bin .sub (.t 25) (.c (.i .i64 (.ofNat 1))), none⟩, 0, [6], [], 0⟩,
  ⟨⟨some 27, .iadS 37 (.t 24) (.t 26), none⟩, 0, [5, 6, 7], [], 0⟩,
  ⟨⟨some 28, .fad 0 (.t 27), none⟩, 0, [5, 6, 7, 8], [], 0⟩,
  ⟨⟨some 29, .ld false 1 (.t 28), none⟩, 1, [5, 6, 7, 8, 9], [], 0⟩,
  ⟨⟨some 30, .bin .lss (.t 23) (.t 29), none⟩, 0, [0, 1, 2, 3, 4, 5, 6, 7, 8, 9, 10], [], 0⟩])
 (.cond (.t 30) (.seq (.reg [⟨some 2, .mv (.c (.i .i64 (.ofNat 7))), none⟩])
 (.ret))
 (.skip))))
 (.reg [⟨some 17, .mv (.t 3), none⟩,
  ⟨some 18, .bin .add (.t 17) (.c (.i .i64 (.ofNat 1))), none⟩,
  ⟨some 3, .mv (.t 18), none⟩]))))))
 (.seq (.reg [⟨some 31, .mv (.t 0), none⟩,
  ⟨some 32, .call 26 [(.t 31)], none⟩,
  ⟨some 4, .mv (.t 32), none⟩])
 (.seq (.seq (.reg [⟨some 5, .mv (.c (.i .i64 (.ofNat 0))), none⟩])
 (.block 2 (.loop (.seq (.seq (.reg [⟨some 33, .mv (.t 5), none⟩,
  ⟨some 34, .mv (.t 4), none⟩,
  ⟨some 35, .lenS (.t 34), none⟩,
  ⟨some 36, .bin .lss (.t 33) (.t 35), none⟩])
 (.cond (.t 36) (.skip)
 (.exit 2)))
 (.seq (.block 3 (.seq (.reg [⟨some 39, .mv (.t 0), none⟩,
  ⟨some 40, .mv (.t 4), none⟩,
  ⟨some 41, .mv (.t 5), none⟩,
  ⟨some 42, .iadS 1 (.t 40) (.t 41), none⟩,
  ⟨some 43, .ld false 1 (.t 42), none⟩,
  ⟨some 44, .call 29 [(.t 39), (.t 43)], none⟩,
  ⟨some 6, .mv (.t 44), none⟩])
 (.seq (.seq (.reg [⟨some 45, .mv (.t 4), none⟩,
  ⟨some 46, .mv (.t 5), none⟩,
  ⟨some 47, .iadS 1 (.t 45) (.t 46), none⟩,
  ⟨some 48, .ld false 1 (.t 47), none⟩,
  ⟨some 49, .bin .lss (.t 48) (.c (.i .i64 (.ofNat 1))), none⟩,
  ⟨some 50, .mv (.t 49), none⟩,
  ⟨some 51, .mv (.t 4), (some (50, false))⟩,
  ⟨some 52, .mv (.t 5), (some (50, false))⟩,
  ⟨some 53, .iadS 1 (.t 51) (.t 52), (some (50, false))⟩,
  ⟨some 54, .ld false 1 (.t 53), (some (50, false))⟩,
  ⟨some 55, .bin .gtr (.t 54) (.c (.i .i64 (.ofNat 1073741824))), (some (50, false))⟩,
  ⟨some 56, .pick (.t 50) (.c (.b true)) (.t 55), none⟩])
 (.cond (.t 56) (.seq (.reg [⟨some 2, .mv (.c (.i .i64 (.ofNat 27))), none⟩])
 (.ret))
 (.skip)))
 (.seq (.seq (.reg [⟨some 57, .mv (.t 6), none⟩,
  ⟨some 58, .call 56 [(.t 57)], none⟩,
  ⟨some 7, .mv (.t 58), none⟩])
 (.seq (.reg [⟨some 59, .mv (.t 7), none⟩,
  ⟨some 60, .bin .neq (.t 59) (.c (.i .i64 (.ofNat 0))), none⟩])
 (.cond (.t 60) (.seq (.reg [⟨some 61, .mv (.t 7), none⟩,
  ⟨some 2, .mv (.t 61), none⟩])
 (.ret))
 (.skip))))
 (.seq (.reg [⟨some 63, .mv (.t 6), none⟩,
  ⟨some 64, .call 57 [(.t 63)], none⟩,
  ⟨some 62, .mv (.t 64), none⟩,
  ⟨some 65, .ext 0 (.t 62), none⟩,
  ⟨some 66, .ext 1 (.t 62), none⟩,
  ⟨some 8, .new 63 6 [.i .i64 (.ofNat 0), .i .i64 (.ofNat 0), .i .i64 (.ofNat 0), .i .i64 (.ofNat 0), .i .i64 (.ofNat 0), .i .i64 (.ofNat 0)], none⟩,
  ⟨none, .st 6 (.t 8) (.t 65), none⟩,
  ⟨some 9, .mv (.t 66), none⟩])
 (.seq (.reg [⟨some 67, .mv (.t 9), none⟩,
  ⟨some 68, .bin .neq (.t 67) (.c (.i .i64 (.ofNat 0))), none⟩])
 (.cond (.t 68) (.seq (.reg [⟨some 69, .mv (.t 9), none⟩,
  ⟨some 2, .mv (.t 69), none⟩])
 (.ret))
 (.skip))))))))
 (.reg [⟨some 37, .mv (.t 5), none⟩,
  ⟨some 38, .bin .add (.t 37) (.c (.i .i64 (.ofNat 1))), none⟩,
  ⟨some 5, .mv (.t 38), none⟩]))))))
 (.seq (.reg [⟨some 2, .mv (.c (.i .i64 (.ofNat 0))), none⟩])
 (.ret)))))), [.t 2]⟩
def d15 : FDef := ⟨48, .seq (.reg [⟨some 2, .mv (.c (.i .i64 (.ofNat 0))), none⟩])
 (.seq (.seq (.reg [⟨some 9, .mv (.t 0), none⟩,
  ⟨some 10, .lenS (.t 9), none⟩,
  ⟨some 11, .bin .gtr (.t 10) (.c (.i .i64 (.ofNat 4096))), none⟩])
 (.cond (.t 11) (.seq (.reg [⟨some 2, .mv (.c (.i .i64 (.ofNat 3))), none⟩])
 (.ret))
 (.skip)))
 (.seq (.seq (.reg [⟨some 12, .mv (.t 0), none⟩,
  ⟨some 13, .call 58 [(.t 12), (.c (.fn (.func 59) [] []))], none⟩,
  ⟨some 14, .un .not (.t 13), none⟩])
 (.cond (.t 14) (.seq (.reg [⟨some 2, .mv (.c (.i .i64 (.ofNat 7))), none⟩])
 (.ret))
 (.skip)))
 (.seq (.seq (.reg [⟨some 15, .mv (.t 0), none⟩,
  ⟨some 16, .call 61 [(.t 15)], none⟩,
  ⟨some 17, .lenS (.t 16), none⟩,
  ⟨some 18, .mv (.c (.i .i64 (.ofNat 0))), none⟩])
 (.block 0 (.loop (.seq (.reg [⟨some 19, .bin .lss (.t 18) (.t 17), none⟩])
 (.seq (.cond (.t 19) (.skip)
 (.exit 0))
 (.seq (.block 1 (.seq (.reg [⟨some 20, .iadS 1 (.t 16) (.t 18), none⟩,
  ⟨some 21, .ld false 1 (.t 20), none⟩,
  ⟨some 4, .mv (.t 21), none⟩])
 (.seq (.seq (.reg [⟨some 22, .mv (.t 4), none⟩,
  ⟨some 23, .iadS 37 (.t 22) (.c (.i .i64 (.ofNat 0))), none⟩,
  ⟨some 24, .fad 0 (.t 23), none⟩,
  ⟨some 25, .ld false 1 (.t 24), none⟩,
  ⟨some 5, .mv (.t 25), none⟩])
 (.seq (.reg [⟨some 26, .mv (.t 5), none⟩,
  ⟨some 27, .bin .lss (.t 26) (.c (.i .i64 (.ofNat 1))), none⟩,
  ⟨some 28, .mv (.t 27), none⟩,
  ⟨some 29, .mv (.t 5), (some (28, false))⟩,
  ⟨some 30, .bin .gtr (.t 29) (.c (.i .i64 (.ofNat 1073741824))), (some (28, false))⟩,
  ⟨some 31, .pick (.t 28) (.c (.b true)) (.t 30), none⟩])
 (.cond (.t 31) (.seq (.reg [⟨some 2, .mv (.c (.i .i64 (.ofNat 27))), none⟩])
 (.ret))
 (.skip))))
 (.seq (.seq (.reg [⟨some 32, .mv (.t 4), none⟩,
  ⟨some 33, .call 62 [(.t 32)], none⟩,
  ⟨some 34, .call 56 [(.t 33)], none⟩,
  ⟨some 6, .mv (.t 34), none⟩])
 (.seq (.reg [⟨some 35, .mv (.t 6), none⟩,
  ⟨some 36, .bin .neq (.t 35) (.c (.i .i64 (.ofNat 0))), none⟩])
 (.cond (.t 36) (.seq (.reg [⟨some 37, .mv (.t 6), none⟩,
  ⟨some 2, .mv (.t 37), none⟩])
 (.ret))
 (.skip))))
 (.seq (.reg [⟨some 39, .mv (.t 4), none⟩,
  ⟨some 40, .call 62 [(.t 39)], none⟩,
  ⟨some 41, .call 57 [(.t 40)], none⟩,
  ⟨some 38, .mv (.t 41), none⟩,
  ⟨some 42, .ext 0 (.t 38), none⟩,
  ⟨some 43, .ext 1 (.t 38), none⟩,
  ⟨some 7, .new 63 6 [.i .i64 (.ofNat 0), .i .i64 (.ofNat 0), .i .i64 (.ofNat 0), .i .i64 (.ofNat 0), .i .i64 (.ofNat 0), .i .i64 (.ofNat 0)], none⟩,
  ⟨none, .st 6 (.t 7) (.t 42), none⟩,
  ⟨some 8, .mv (.t 43), none⟩])
 (.seq (.reg [⟨some 44, .mv (.t 8), none⟩,
  ⟨some 45, .bin .neq (.t 44) (.c (.i .i64 (.ofNat 0))), none⟩])
 (.cond (.t 45) (.seq (.reg [⟨some 46, .mv (.t 8), none⟩,
  ⟨some 2, .mv (.t 46), none⟩])
 (.ret))
 (.skip))))))))
 (.reg [⟨some 47, .bin .add (.t 18) (.c (.i .i64 (.ofNat 1))), none⟩,
  ⟨some 18, .mv (.t 47), none⟩])))))))
 (.seq (.reg [⟨some 2, .mv (.c (.i .i64 (.ofNat 0))), none⟩])
 (.ret))))), [.t 2]⟩
def d16 : FDef := ⟨26, .seq (.reg [⟨some 4, .mv (.c (.b false)), none⟩])
 (.seq (.seq (.reg [⟨some 6, .mv (.t 0), none⟩,
  ⟨some 7, .lenS (.t 6), none⟩,
  ⟨some 8, .mv (.t 1), none⟩,
  ⟨some 9, .lenS (.t 8), none⟩,
  ⟨some 10, .bin .neq (.t 7) (.t 9), none⟩])
 (.cond (.t 10) (.seq (.reg [⟨some 4, .mv (.c (.b false)), none⟩])
 (.ret))
 (.skip)))
 (.seq (.seq (.reg [⟨some 5, .mv (.c (.i .i64 (.ofNat 0))), none⟩])
 (.block 0 (.loop (.seq (.seq (.reg [⟨some 11, .mv (.t 5), none⟩,
  ⟨some 12, .mv (.t 0), none⟩,
  ⟨some 13, .lenS (.t 12), none⟩,
  ⟨some 14, .bin .lss (.t 11) (.t 13), none⟩])
 (.cond (.t 14) (.skip)
 (.exit 0)))
 (.seq (.block 1 (.seq (.dreg 0 [⟨⟨some 17, .mv (.t 0), none⟩, 0, [], [], 0⟩,
  ⟨⟨some 18, .mv (.t 5), none⟩, 0, [], [], 0⟩,
  ⟨⟨some 19, .iadS 37 (.t 17) (.t 18), none⟩, 0, [0, 1], [], 0⟩,
  ⟨⟨some 20, .ld true 37 (.t 19), none⟩, 1, [0, 1, 2], [], 0⟩,
  ⟨⟨some 21, .mv (.t 1), none⟩, 0, [], [], 0⟩,
  ⟨⟨some 22, .mv (.t 5), none⟩, 0, [], [], 0⟩,
  ⟨⟨some 23, .iadS 37 (.t 21) (.t 22), none⟩, 0, [4, 5], [], 0⟩,
  ⟨⟨some 24, .ld true 37 (.t 23), none⟩, 1, [4, 5, 6], [], 0⟩,
  ⟨⟨some 25, .eqC true [.i .i64, .b, .s, .b, .s, .b, .s, .b, .s, .b, .b, .s, .b, .s, .b, .s, .b, .s, .b, .b, .b, .b, .s, .b, .s, .b, .s, .b, .s, .b, .s, .b, .s, .b, .s, .b, .s] (.t 20) (.t 24), none⟩, 0, [0, 1, 2, 3, 4, 5, 6, 7], [], 0⟩])
 (.cond (.t 25) (.seq (.reg [⟨some 4, .mv (.c (.b false)), none⟩])
 (.ret))
 (.skip))))
 (.reg [⟨some 15, .mv (.t 5), none⟩,
  ⟨some 16, .bin .add (.t 15) (.c (.i .i64 (.ofNat 1))), none⟩,
  ⟨some 5, .mv (.t 16), none⟩]))))))
 (.seq (.reg [⟨some 4, .mv (.c (.b true)), none⟩])
 (.ret)))), [.t 4]⟩
def d17 : FDef := ⟨6, .seq (.reg [⟨some 2, .mv (.c (.i .i64 (.ofNat 0))), none⟩])
 (.seq (.reg [⟨some 3, .mv (.t 0), none⟩,
  ⟨some 4, .bin .rem (.t 3) (.c (.i .u8 (.ofNat 4))), none⟩,
  ⟨some 5, .conv .i64 (.t 4), none⟩,
  ⟨some 2, .mv (.t 5), none⟩])
 (.ret)), [.t 2]⟩
def d18 : FDef := ⟨38, .seq (.reg [⟨some 2, .mv (.c (.p none)), none⟩,
  ⟨some 3, .mv (.c (.i .i64 (.ofNat 0))), none⟩])
 (.seq (.reg [⟨some 10, .mv (.t 0), none⟩,
  ⟨some 11, .call 63 [(.t 10)], none⟩,
  ⟨some 9, .mv (.t 11), none⟩,
  ⟨some 12, .ext 0 (.t 9), none⟩,
  ⟨some 13, .ext 1 (.t 9), none⟩,
  ⟨some 4, .mv (.t 12), none⟩,
  ⟨some 5, .mv (.t 13), none⟩])
 (.seq (.seq (.reg [⟨some 14, .mv (.t 5), none⟩,
  ⟨some 15, .bin .neq (.t 14) (.c (.i .i64 (.ofNat 0))), none⟩])
 (.cond (.t 15) (.seq (.reg [⟨some 16, .mv (.t 5), none⟩,
  ⟨some 2, .mv (.c (.p none)), none⟩,
  ⟨some 3, .mv (.t 16), none⟩])
 (.ret))
 (.skip)))
 (.seq (.reg [⟨some 18, .mv (.t 4), none⟩,
  ⟨some 19, .call 20 [(.t 18)], none⟩,
  ⟨some 17, .mv (.t 19), none⟩,
  ⟨some 20, .ext 0 (.t 17), none⟩,
  ⟨some 21, .ext 1 (.t 17), none⟩,
  ⟨some 6, .mv (.t 20), none⟩,
  ⟨some 5, .mv (.t 21), none⟩])
 (.seq (.seq (.reg [⟨some 22, .mv (.t 5), none⟩,
  ⟨some 23, .bin .neq (.t 22) (.c (.i .i64 (.ofNat 0))), none⟩])
 (.cond (.t 23) (.seq (.reg [⟨some 24, .mv (.t 5), none⟩,
  ⟨some 2, .mv (.c (.p none)), none⟩,
  ⟨some 3, .mv (.t 24), none⟩])
 (.ret))
 (.skip)))
 (.seq (.seq (.reg [⟨some 26, .mv (.t 6), none⟩,
  ⟨some 27, .call 13 [(.t 26)], none⟩,
  ⟨some 25, .mv (.t 27), none⟩,
  ⟨some 28, .ext 0 (.t 25), none⟩,
  ⟨some 29, .ext 1 (.t 25), none⟩,
  ⟨some 7, .mv (.t 28), none⟩,
  ⟨some 8, .mv (.t 29), none⟩])
 (.seq (.reg [⟨some 30, .mv (.t 8), none⟩,
  ⟨some 31, .bin .neq (.t 30) (.c (.i .i64 (.ofNat 0))), none⟩,
  ⟨some 32, .mv (.t 31), none⟩,
  ⟨some 33, .mv (.t 7), (some (32, false))⟩,
  ⟨some 34, .mv (.t 0), (some (32, false))⟩,
  ⟨some 35, .bin .neq (.t 33) (.t 34), (some (32, false))⟩,
  ⟨some 36, .pick (.t 32) (.c (.b true)) (.t 35), none⟩])
 (.cond (.t 36) (.seq (.reg [⟨some 2, .mv (.c (.p none)), none⟩,
  ⟨some 3, .mv (.c (.i .i64 (.ofNat 5))), none⟩])
 (.ret))
 (.skip))))
 (.seq (.reg [⟨some 37, .mv (.t 4), none⟩,
  ⟨some 2, .mv (.t 37), none⟩,
  ⟨some 3, .mv (.c (.i .i64 (.ofNat 0))), none⟩])
 (.ret))))))), [.t 2, .t 3]⟩
def d19 : FDef := ⟨11, .seq (.reg [⟨some 2, .mv (.c (.i .i64 (.ofNat 0))), none⟩])
 (.seq (.reg [⟨some 6, .mv (.t 0), none⟩,
  ⟨some 7, .call 18 [(.t 6)], none⟩,
  ⟨some 5, .mv (.t 7), none⟩,
  ⟨some 8, .ext 0 (.t 5), none⟩,
  ⟨some 9, .ext 1 (.t 5), none⟩,
  ⟨some 3, .mv (.t 8), none⟩,
  ⟨some 4, .mv (.t 9), none⟩])
 (.seq (.reg [⟨some 10, .mv (.t 4), none⟩,
  ⟨some 2, .mv (.t 10), none⟩])
 (.ret))), [.t 2]⟩
def d20 : FDef := ⟨12, .seq (.reg [⟨some 2, .mv (.c (.sl none 0 0 true)), none⟩,
  ⟨some 3, .mv (.c (.i .i64 (.ofNat 0))), none⟩])
 (.seq (.seq (.reg [⟨some 4, .mv (.t 0), none⟩,
  ⟨some 5, .eqP false (.t 4) (.c (.p none)), none⟩])
 (.cond (.t 5) (.seq (.reg [⟨some 2, .mv (.c (.sl none 0 0 true)), none⟩,
  ⟨some 3, .mv (.c (.i .i64 (.ofNat 1))), none⟩])
 (.ret))
 (.skip)))
 (.seq (.reg [⟨some 6, .mv (.t 0), none⟩,
  ⟨some 7, .mv (.t 0), none⟩,
  ⟨some 8, .mkF (.func 65) [(.t 7)] [], none⟩,
  ⟨some 9, .call 64 [(.t 6), (.t 8), (.c (.fn (.func 66) [] [])), (.c (.fn (.func 67) [] []))], none⟩,
  ⟨some 10, .ext 0 (.t 9), none⟩,
  ⟨some 11, .ext 1 (.t 9), none⟩,
  ⟨some 2, .mv (.t 10), none⟩,
  ⟨some 3, .mv (.t 11), none⟩])
 (.ret))), [.t 2, .t 3]⟩
def d21 : FDef := ⟨9, .seq (.reg [⟨some 2, .mv (.c (.i .i64 (.ofNat 0))), none⟩])
 (.seq (.seq (.reg [⟨some 3, .mv (.t 0), none⟩,
  ⟨some 4, .eqP false (.t 3) (.c (.p none)), none⟩])
 (.cond (.t 4) (.seq (.reg [⟨some 2, .mv (.c (.i .i64 (.ofNat 0))), none⟩])
 (.ret))
 (.skip)))
 (.seq (.reg [⟨some 5, .mv (.t 0), none⟩,
  ⟨some 6, .nilChk (.t 5), none⟩,
  ⟨some 7, .fad 0 (.t 6), none⟩,
  ⟨some 8, .ld false 1 (.t 7), none⟩,
  ⟨some 2, .mv (.t 8), none⟩])
 (.ret))), [.t 2]⟩
def d22 : FDef := ⟨10, .seq (.reg [⟨some 2, .mv (.c (.i .i64 (.ofNat 0))), none⟩])
 (.seq (.seq (.reg [⟨some 3, .mv (.t 0), none⟩,
  ⟨some 4, .eqP false (.t 3) (.c (.p none)), none⟩])
 (.cond (.t 4) (.seq (.reg [⟨some 2, .mv (.c (.i .i64 (.ofNat 0))), none⟩])
 (.ret))
 (.skip)))
 (.seq (.reg [⟨some 5, .mv (.t 0), none⟩,
  ⟨some 6, .nilChk (.t 5), none⟩,
  ⟨some 7, .fad 1 (.t 6), none⟩,
  ⟨some 8, .ld false 1 (.t 7), none⟩,
  ⟨some 9, .lenS (.t 8), none⟩,
  ⟨some 2, .mv (.t 9), none⟩])
 (.ret))), [.t 2]⟩
def d23 : FDef := ⟨23, .seq (.reg [⟨some 2, .mv (.c (.sl none 0 0 true)), none⟩])
 (.seq (.reg [⟨some 3, .mv (.c (.sl none 0 0 true)), none⟩])
 (.seq (.seq (.reg [⟨some 4, .mv (.c (.i .i64 (.ofNat 0))), none⟩])
 (.block 0 (.loop (.seq (.seq (.reg [⟨some 5, .mv (.t 4), none⟩,
  ⟨some 6, .mv (.t 0), none⟩,
  ⟨some 7, .lenS (.t 6), none⟩,
  ⟨some 8, .bin .lss (.t 5) (.t 7), none⟩])
 (.cond (.t 8) (.skip)
 (.exit 0)))
 (.seq (.block 1 (.reg [⟨some 11, .mv (.t 3), none⟩,
  ⟨some 12, .mv (.t 0), none⟩,
  ⟨some 13, .mv (.t 4), none⟩,
  ⟨some 14, .mv (.t 4), none⟩,
  ⟨some 15, .bin .add (.t 14) (.c (.i .i64 (.ofNat 16))), none⟩,
  ⟨some 16, .mv (.t 0), none⟩,
  ⟨some 17, .lenS (.t 16), none⟩,
  ⟨some 18, .mnmx false (.t 15) (.t 17), none⟩,
  ⟨some 19, .slcS 37 (.t 12) (some (.t 13)) (some (.t 18)) none, none⟩,
  ⟨some 20, .buildS 31 1 1 [.sl none 0 0 true] [(0, 1, (.t 19))], none⟩,
  ⟨some 21, .app 31 1 24 (.t 11) (.t 20), none⟩,
  ⟨some 3, .mv (.t 21), none⟩]))
 (.reg [⟨some 9, .mv (.t 4), none⟩,
  ⟨some 10, .bin .add (.t 9) (.c (.i .i64 (.ofNat 16))), none⟩,
  ⟨some 4, .mv (.t 10), none⟩]))))))
 (.seq (.reg [⟨some 22, .mv (.t 3), none⟩,
  ⟨some 2, .mv (.t 22), none⟩])
 (.ret)))), [.t 2]⟩
def d24 : FDef := ⟨26, .seq (.reg [⟨some 4, .mv (.c (.b false)), none⟩])
 (.seq (.seq (.reg [⟨some 6, .mv (.t 0), none⟩,
  ⟨some 7, .lenS (.t 6), none⟩,
  ⟨some 8, .mv (.t 1), none⟩,
  ⟨some 9, .lenS (.t 8), none⟩,
  ⟨some 10, .bin .neq (.t 7) (.t 9), none⟩])
 (.cond (.t 10) (.seq (.reg [⟨some 4, .mv (.c (.b false)), none⟩])
 (.ret))
 (.skip)))
 (.seq (.seq (.reg [⟨some 5, .mv (.c (.i .i64 (.ofNat 0))), none⟩])
 (.block 0 (.loop (.seq (.seq (.reg [⟨some 11, .mv (.t 5), none⟩,
  ⟨some 12, .mv (.t 0), none⟩,
  ⟨some 13, .lenS (.t 12), none⟩,
  ⟨some 14, .bin .lss (.t 11) (.t 13), none⟩])
 (.cond (.t 14) (.skip)
 (.exit 0)))
 (.seq (.block 1 (.seq (.dreg 0 [⟨⟨some 17, .mv (.t 0), none⟩, 0, [], [], 0⟩,
  ⟨⟨some 18, .mv (.t 5), none⟩, 0, [], [], 0⟩,
  ⟨⟨some 19, .iadS 1 (.t 17) (.t 18), none⟩, 0, [0, 1], [], 0⟩,
  ⟨⟨some 20, .ld false 1 (.t 19), none⟩, 1, [0, 1, 2], [], 0⟩,
  ⟨⟨some 21, .mv (.t 1), none⟩, 0, [], [], 0⟩,
  ⟨⟨some 22, .mv (.t 5), none⟩, 0, [], [], 0⟩,
  ⟨⟨some 23, .iadS 1 (.t 21) (.t 22), none⟩, 0, [4, 5], [], 0⟩,
  ⟨⟨some 24, .ld false 1 (.t 23), none⟩, 1, [4, 5, 6], [], 0⟩,
  ⟨⟨some 25, .bin .neq (.t 20) (.t 24), none⟩, 0, [0, 1, 2, 3, 4, 5, 6, 7], [], 0⟩])
 (.cond (.t 25) (.seq (.reg [⟨some 4, .mv (.c (.b false)), none⟩])
 (.ret))
 (.skip))))
 (.reg [⟨some 15, .mv (.t 5), none⟩,
  ⟨some 16, .bin .add (.t 15) (.c (.i .i64 (.ofNat 1))), none⟩,
  ⟨some 5, .mv (.t 16), none⟩]))))))
 (.seq (.reg [⟨some 4, .mv (.c (.b true)), none⟩])
 (.ret)))), [.t 4]⟩
def d25 : FDef := ⟨24, .seq (.reg [⟨some 2, .mv (.c (.sl none 0 0 true)), none⟩])
 (.seq (.seq (.reg [⟨some 6, .mv (.t 0), none⟩,
  ⟨some 7, .eqP false (.t 6) (.c (.p none)), none⟩])
 (.cond (.t 7) (.seq (.reg [⟨some 2, .mv (.c (.sl none 0 0 true)), none⟩])
 (.ret))
 (.skip)))
 (.seq (.reg [⟨some 3, .mv (.c (.sl none 0 0 true)), none⟩])
 (.seq (.seq (.reg [⟨some 8, .mv (.t 0), none⟩,
  ⟨some 9, .nilChk (.t 8), none⟩,
  ⟨some 10, .fad 1 (.t 9), none⟩,
  ⟨some 11, .ld false 1 (.t 10), none⟩,
  ⟨some 12, .lenS (.t 11), none⟩,
  ⟨some 13, .mv (.c (.i .i64 (.ofNat 0))), none⟩])
 (.block 0 (.loop (.seq (.reg [⟨some 14, .bin .lss (.t 13) (.t 12), none⟩])
 (.seq (.cond (.t 14) (.skip)
 (.exit 0))
 (.seq (.block 1 (.seq (.reg [⟨some 15, .iadS 8 (.t 11) (.t 13), none⟩,
  ⟨some 16, .ld true 8 (.t 15), none⟩,
  ⟨some 5, .new 133 8 [.i .i64 (.ofNat 0), .i .i64 (.ofNat 0), .i .i64 (.ofNat 0), .i .i64 (.ofNat 0), .i .i64 (.ofNat 0), .i .i64 (.ofNat 0), .sl none 0 0 true, .s []], none⟩,
  ⟨none, .st 8 (.t 5) (.t 16), none⟩])
 (.reg [⟨some 17, .mv (.t 3), none⟩,
  ⟨some 18, .fad 6 (.t 5), none⟩,
  ⟨some 19, .ld false 1 (.t 18), none⟩,
  ⟨some 20, .app 3 1 8 (.t 17) (.t 19), none⟩,
  ⟨some 3, .mv (.t 20), none⟩])))
 (.reg [⟨some 21, .bin .add (.t 13) (.c (.i .i64 (.ofNat 1))), none⟩,
  ⟨some 13, .mv (.t 21), none⟩])))))))
 (.seq (.reg [⟨some 22, .mv (.t 3), none⟩,
  ⟨some 23, .call 68 [(.t 22)], none⟩,
  ⟨some 2, .mv (.t 23), none⟩])
 (.ret))))), [.t 2]⟩
def d26 : FDef := ⟨36, .seq (.reg [⟨some 2, .mv (.c (.sl none 0 0 true)), none⟩])
 (.seq (.reg [⟨some 3, .mv (.c (.sl none 0 0 true)), none⟩])
 (.seq (.seq (.reg [⟨some 4, .mv (.c (.i .i64 (.ofNat 0))), none⟩])
 (.block 0 (.loop (.seq (.seq (.reg [⟨some 5, .mv (.t 4), none⟩,
  ⟨some 6, .mv (.t 0), none⟩,
  ⟨some 7, .lenS (.t 6), none⟩,
  ⟨some 8, .bin .lss (.t 5) (.t 7), none⟩])
 (.cond (.t 8) (.skip)
 (.exit 0)))
 (.seq (.block 1 (.seq (.dreg 0 [⟨⟨some 11, .mv (.t 4), none⟩, 0, [], [], 0⟩,
  ⟨⟨some 12, .bin .eql (.t 11) (.c (.i .i64 (.ofNat 0))), none⟩, 0, [0], [], 0⟩,
  ⟨⟨some 13, .mv (.t 12), none⟩, 0, [0, 1], [], 0⟩,
  ⟨⟨some 14, .mv (.t 0), (some (13, false))⟩, 0, [0, 1, 2], [], 0⟩,
  ⟨⟨some 15, .mv (.t 4), (some (13, false))⟩, 0, [0, 1, 2], [], 0⟩,
  ⟨⟨some 16, .iadS 37 (.t 14) (.t 15), (some (13, false))⟩, 0, [0, 1, 2, 3, 4], [], 0⟩,
  ⟨⟨some 17, .fad 0 (.t 16), (some (13, false))⟩, 0, [0, 1, 2, 3, 4, 5], [], 0⟩,
  ⟨⟨some 18, .ld false 1 (.t 17), (some (13, false))⟩, 1, [0, 1, 2, 3, 4, 5, 6], [], 0⟩,
  ⟨⟨some 19, .mv (.t 0), (some (13, false))⟩, 0, [0, 1, 2], [], 0⟩,
  ⟨⟨some 20, .mv (.t 4), (some (13, false))⟩, 0, [0, 1, 2], [], 0⟩,
  ⟨⟨some 21, .bin .sub (.t 20) (.c (.i .i64 (.ofNat 1))), (some (13, false))⟩, 0, [0, 1, 2, 9], [], 0⟩,
  ⟨⟨some 22, .iadS 37 (.t 19) (.t 21), (some (13, false))⟩, 0, [0, 1, 2, 8, 9, 10], [], 0⟩,
  ⟨⟨some 23, .fad 0 (.t 22), (some (13, false))⟩, 0, [0, 1, 2, 8, 9, 10, 11], [], 0⟩,
  ⟨⟨some 24, .ld false 1 (.t 23), (some (13, false))⟩, 1, [0, 1, 2, 8, 9, 10, 11, 12], [], 0⟩,
  ⟨⟨some 25, .bin .neq (.t 18) (.t 24), (some (13, false))⟩, 0, [0, 1, 2, 3, 4, 5, 6, 7, 8, 9, 10, 11, 12, 13], [], 0⟩,
  ⟨⟨some 26, .pick (.t 13) (.c (.b true)) (.t 25), none⟩, 0, [0, 1, 2, 3, 4, 5, 6, 7, 8, 9, 10, 11, 12, 13, 14], [], 0⟩])
 (.cond (.t 26) (.reg [⟨some 27, .mv (.t 3), none⟩,
  ⟨some 28, .mv (.t 0), none⟩,
  ⟨some 29, .mv (.t 4), none⟩,
  ⟨some 30, .iadS 37 (.t 28) (.t 29), none⟩,
  ⟨some 31, .fad 0 (.t 30), none⟩,
  ⟨some 32, .ld false 1 (.t 31), none⟩,
  ⟨some 33, .buildS 3 1 1 [.i .i64 (.ofNat 0)] [(0, 1, (.t 32))], none⟩,
  ⟨some 34, .app 3 1 8 (.t 27) (.t 33), none⟩,
  ⟨some 3, .mv (.t 34), none⟩])
 (.skip))))
 (.reg [⟨some 9, .mv (.t 4), none⟩,
  ⟨some 10, .bin .add (.t 9) (.c (.i .i64 (.ofNat 1))), none⟩,
  ⟨some 4, .mv (.t 10), none⟩]))))))
 (.seq (.reg [⟨some 35, .mv (.t 3), none⟩,
  ⟨some 2, .mv (.t 35), none⟩])
 (.ret)))), [.t 2]⟩
def d27 : FDef := ⟨23, .seq (.reg [⟨some 3, .box 3 1 (.t 1), none⟩,
  ⟨some 4, .mv (.c (.sl none 0 0 true)), none⟩,
  ⟨some 5, .mv (.c (.i .i64 (.ofNat 0))), none⟩])
 (.seq (.seq (.reg [⟨some 8, .mv (.t 0), none⟩,
  ⟨some 9, .eqP false (.t 8) (.c (.p none)), none⟩])
 (.cond (.t 9) (.seq (.reg [⟨some 4, .mv (.c (.sl none 0 0 true)), none⟩,
  ⟨some 5, .mv (.c (.i .i64 (.ofNat 1))), none⟩])
 (.ret))
 (.skip)))
 (.seq (.reg [⟨some 11, .mv (.t 0), none⟩,
  ⟨some 12, .mv (.t 0), none⟩,
  ⟨some 13, .mkF (.func 65) [(.t 12)] [], none⟩,
  ⟨some 14, .ld false 1 (.t 3), none⟩,
  ⟨some 15, .call 69 [(.t 14)], none⟩,
  ⟨some 16, .mkF (.func 70) [] [(.t 3)], none⟩,
  ⟨some 17, .call 64 [(.t 11), (.t 13), (.t 15), (.t 16)], none⟩,
  ⟨some 10, .mv (.t 17), none⟩,
  ⟨some 18, .ext 0 (.t 10), none⟩,
  ⟨some 19, .ext 1 (.t 10), none⟩,
  ⟨some 6, .mv (.t 18), none⟩,
  ⟨some 7, .mv (.t 19), none⟩])
 (.seq (.reg [⟨some 20, .mv (.t 6), none⟩,
  ⟨some 21, .call 62 [(.t 20)], none⟩,
  ⟨some 22, .mv (.t 7), none⟩,
  ⟨some 4, .mv (.t 21), none⟩,
  ⟨some 5, .mv (.t 22), none⟩])
 (.ret)))), [.t 4, .t 5]⟩
def d28 : FDef := ⟨26, .seq (.reg [⟨some 4, .mv (.c (.b false)), none⟩])
 (.seq (.seq (.reg [⟨some 6, .mv (.t 0), none⟩,
  ⟨some 7, .lenS (.t 6), none⟩,
  ⟨some 8, .mv (.t 1), none⟩,
  ⟨some 9, .lenS (.t 8), none⟩,
  ⟨some 10, .bin .neq (.t 7) (.t 9), none⟩])
 (.cond (.t 10) (.seq (.reg [⟨some 4, .mv (.c (.b false)), none⟩])
 (.ret))
 (.skip)))
 (.seq (.seq (.reg [⟨some 5, .mv (.c (.i .i64 (.ofNat 0))), none⟩])
 (.block 0 (.loop (.seq (.seq (.reg [⟨some 11, .mv (.t 5), none⟩,
  ⟨some 12, .mv (.t 0), none⟩,
  ⟨some 13, .lenS (.t 12), none⟩,
  ⟨some 14, .bin .lss (.t 11) (.t 13), none⟩])
 (.cond (.t 14) (.skip)
 (.exit 0)))
 (.seq (.block 1 (.seq (.dreg 0 [⟨⟨some 17, .mv (.t 0), none⟩, 0, [], [], 0⟩,
  ⟨⟨some 18, .mv (.t 5), none⟩, 0, [], [], 0⟩,
  ⟨⟨some 19, .iadS 36 (.t 17) (.t 18), none⟩, 0, [0, 1], [], 0⟩,
  ⟨⟨some 20, .ld true 36 (.t 19), none⟩, 1, [0, 1, 2], [], 0⟩,
  ⟨⟨some 21, .mv (.t 1), none⟩, 0, [], [], 0⟩,
  ⟨⟨some 22, .mv (.t 5), none⟩, 0, [], [], 0⟩,
  ⟨⟨some 23, .iadS 36 (.t 21) (.t 22), none⟩, 0, [4, 5], [], 0⟩,
  ⟨⟨some 24, .ld true 36 (.t 23), none⟩, 1, [4, 5, 6], [], 0⟩,
  ⟨⟨some 25, .eqC true [.b, .s, .b, .s, .b, .s, .b, .s, .b, .b, .s, .b, .s, .b, .s, .b, .s, .b, .b, .b, .b, .s, .b, .s, .b, .s, .b, .s, .b, .s, .b, .s, .b, .s, .b, .s] (.t 20) (.t 24), none⟩, 0, [0, 1, 2, 3, 4, 5, 6, 7], [], 0⟩])
 (.cond (.t 25) (.seq (.reg [⟨some 4, .mv (.c (.b false)), none⟩])
 (.ret))
 (.skip))))
 (.reg [⟨some 15, .mv (.t 5), none⟩,
  ⟨some 16, .bin .add (.t 15) (.c (.i .i64 (.ofNat 1))), none⟩,
  ⟨some 5, .mv (.t 16), none⟩]))))))
 (.seq (.reg [⟨some 4, .mv (.c (.b true)), none⟩])
 (.ret)))), [.t 4]⟩
def d29 : FDef := ⟨29, .seq (.reg [⟨some 4, .mv (.c (.sl none 0 0 true)), none⟩])
 (.seq (.reg [⟨some 5, .mv (.c (.sl none 0 0 true)), none⟩])
 (.seq (.seq (.reg [⟨some 6, .mv (.c (.i .i64 (.ofNat 0))), none⟩])
 (.block 0 (.loop (.seq (.seq (.reg [⟨some 7, .mv (.t 6), none⟩,
  ⟨some 8, .mv (.t 0), none⟩,
  ⟨some 9, .lenS (.t 8), none⟩,
  ⟨some 10, .bin .lss (.t 7) (.t 9), none⟩])
 (.cond (.t 10) (.skip)
 (.exit 0)))
 (.seq (.block 1 (.seq (.reg [⟨some 13, .mv (.t 0), none⟩,
  ⟨some 14, .mv (.t 6), none⟩,
  ⟨some 15, .iadS 37 (.t 13) (.t 14), none⟩,
  ⟨some 16, .fad 0 (.t 15), none⟩,
  ⟨some 17, .ld false 1 (.t 16), none⟩,
  ⟨some 18, .mv (.t 1), none⟩,
  ⟨some 19, .bin .eql (.t 17) (.t 18), none⟩])
 (.cond (.t 19) (.reg [⟨some 20, .mv (.t 5), none⟩,
  ⟨some 21, .mv (.t 0), none⟩,
  ⟨some 22, .mv (.t 6), none⟩,
  ⟨some 23, .iadS 37 (.t 21) (.t 22), none⟩,
  ⟨some 24, .fad 1 (.t 23), none⟩,
  ⟨some 25, .ld true 36 (.t 24), none⟩,
  ⟨some 26, .buildS 84 36 1 [.b false, .s [], .b false, .s [], .b false, .s [], .b false, .s [], .b false, .b false, .s [], .b false, .s [], .b false, .s [], .b false, .s [], .b false, .b false, .b false, .b false, .s [], .b false, .s [], .b false, .s [], .b false, .s [], .b false, .s [], .b false, .s [], .b false, .s [], .b false, .s []] [(0, 36, (.t 25))], none⟩,
  ⟨some 27, .app 84 36 408 (.t 20) (.t 26), none⟩,
  ⟨some 5, .mv (.t 27), none⟩])
 (.skip))))
 (.reg [⟨some 11, .mv (.t 6), none⟩,
  ⟨some 12, .bin .add (.t 11) (.c (.i .i64 (.ofNat 1))), none⟩,
  ⟨some 6, .mv (.t 12), none⟩]))))))
 (.seq (.reg [⟨some 28, .mv (.t 5), none⟩,
  ⟨some 4, .mv (.t 28), none⟩])
 (.ret)))), [.t 4]⟩
def d30 : FDef := ⟨11, .seq (.reg [⟨some 4, .mv (.c (.i .i64 (.ofNat 0))), none⟩])
 (.seq (.seq (.reg [⟨some 5, .mv (.t 0), none⟩,
  ⟨some 6, .eqP false (.t 5) (.c (.p none)), none⟩])
 (.cond (.t 6) (.seq (.reg [⟨some 4, .mv (.c (.i .i64 (.ofNat 0))), none⟩])
 (.ret))
 (.skip)))
 (.seq (.reg [⟨some 7, .mv (.t 0), none⟩,
  ⟨some 8, .mv (.t 1), none⟩,
  ⟨some 9, .call 69 [(.t 8)], none⟩,
  ⟨some 10, .call 71 [(.t 7), (.t 9)], none⟩,
  ⟨some 4, .mv (.t 10), none⟩])
 (.ret))), [.t 4]⟩
def d31 : FDef := ⟨27, .seq (.reg [⟨some 4, .mv (.c (.i .i64 (.ofNat 0))), none⟩])
 (.seq (.reg [⟨some 5, .mv (.c (.i .i64 (.ofNat 0))), none⟩])
 (.seq (.reg [⟨some 8, .mv (.t 0), none⟩,
  ⟨some 9, .call 23 [(.t 8)], none⟩,
  ⟨some 6, .mv (.t 9), none⟩])
 (.seq (.seq (.reg [⟨some 7, .mv (.c (.i .i64 (.ofNat 0))), none⟩])
 (.block 0 (.loop (.seq (.seq (.reg [⟨some 10, .mv (.t 7), none⟩,
  ⟨some 11, .mv (.t 6), none⟩,
  ⟨some 12, .lenS (.t 11), none⟩,
  ⟨some 13, .bin .lss (.t 10) (.t 12), none⟩])
 (.cond (.t 13) (.skip)
 (.exit 0)))
 (.seq (.block 1 (.seq (.reg [⟨some 16, .mv (.t 6), none⟩,
  ⟨some 17, .mv (.t 7), none⟩,
  ⟨some 18, .iadS 1 (.t 16) (.t 17), none⟩,
  ⟨some 19, .ld false 1 (.t 18), none⟩,
  ⟨some 20, .mv (.t 1), none⟩,
  ⟨some 21, .call 29 [(.t 19), (.t 20)], none⟩,
  ⟨some 22, .lenS (.t 21), none⟩,
  ⟨some 23, .bin .gtr (.t 22) (.c (.i .i64 (.ofNat 0))), none⟩])
 (.cond (.t 23) (.reg [⟨some 24, .mv (.t 5), none⟩,
  ⟨some 25, .bin .add (.t 24) (.c (.i .i64 (.ofNat 1))), none⟩,
  ⟨some 5, .mv (.t 25), none⟩])
 (.skip))))
 (.reg [⟨some 14, .mv (.t 7), none⟩,
  ⟨some 15, .bin .add (.t 14) (.c (.i .i64 (.ofNat 1))), none⟩,
  ⟨some 7, .mv (.t 15), none⟩]))))))
 (.seq (.reg [⟨some 26, .mv (.t 5), none⟩,
  ⟨some 4, .mv (.t 26), none⟩])
 (.ret))))), [.t 4]⟩
def d32 : FDef := ⟨19, .seq (.reg [⟨some 3, .box 63 6 (.t 1), none⟩,
  ⟨some 4, .mv (.c (.sl none 0 0 true)), none⟩,
  ⟨some 5, .mv (.c (.i .i64 (.ofNat 0))), none⟩])
 (.seq (.seq (.reg [⟨some 6, .mv (.t 0), none⟩,
  ⟨some 7, .eqP false (.t 6) (.c (.p none)), none⟩])
 (.cond (.t 7) (.seq (.reg [⟨some 4, .mv (.c (.sl none 0 0 true)), none⟩,
  ⟨some 5, .mv (.c (.i .i64 (.ofNat 1))), none⟩])
 (.ret))
 (.skip)))
 (.seq (.seq (.reg [⟨some 8, .ld true 6 (.t 3), none⟩,
  ⟨some 9, .call 72 [(.t 8)], none⟩,
  ⟨some 10, .un .not (.t 9), none⟩])
 (.cond (.t 10) (.seq (.reg [⟨some 4, .mv (.c (.sl none 0 0 true)), none⟩,
  ⟨some 5, .mv (.c (.i .i64 (.ofNat 0))), none⟩])
 (.ret))
 (.skip)))
 (.seq (.reg [⟨some 11, .mv (.t 0), none⟩,
  ⟨some 12, .mv (.t 0), none⟩,
  ⟨some 13, .mkF (.func 65) [(.t 12)] [], none⟩,
  ⟨some 14, .mkF (.func 73) [] [(.t 3)], none⟩,
  ⟨some 15, .mkF (.func 75) [] [(.t 3)], none⟩,
  ⟨some 16, .call 64 [(.t 11), (.t 13), (.t 14), (.t 15)], none⟩,
  ⟨some 17, .ext 0 (.t 16), none⟩,
  ⟨some 18, .ext 1 (.t 16), none⟩,
  ⟨some 4, .mv (.t 17), none⟩,
  ⟨some 5, .mv (.t 18), none⟩])
 (.ret)))), [.t 4, .t 5]⟩
def d33 : FDef := ⟨33, .seq (.reg [⟨some 2, .new 63 6 [.i .i64 (.ofNat 0), .i .i64 (.ofNat 0), .i .i64 (.ofNat 0), .i .i64 (.ofNat 0), .i .i64 (.ofNat 0), .i .i64 (.ofNat 0)], none⟩,
  ⟨some 3, .mv (.c (.b false)), none⟩])
 (.seq (.seq (.reg [⟨some 7, .mv (.t 0), none⟩,
  ⟨some 8, .call 22 [(.t 7)], none⟩,
  ⟨some 9, .bin .eql (.t 8) (.c (.i .i64 (.ofNat 0))), none⟩])
 (.cond (.t 9) (.seq (.reg [⟨some 10, .build [.i .i64 (.ofNat 0), .i .i64 (.ofNat 0), .i .i64 (.ofNat 0), .i .i64 (.ofNat 0), .i .i64 (.ofNat 0), .i .i64 (.ofNat 0)] [], none⟩,
  ⟨none, .st 6 (.t 2) (.t 10), none⟩,
  ⟨some 3, .mv (.c (.b false)), none⟩])
 (.ret))
 (.skip)))
 (.seq (.reg [⟨some 11, .mv (.t 0), none⟩,
  ⟨some 12, .nilChk (.t 11), none⟩,
  ⟨some 13, .fad 1 (.t 12), none⟩,
  ⟨some 14, .ld false 1 (.t 13), none⟩,
  ⟨some 15, .iadS 8 (.t 14) (.c (.i .i64 (.ofNat 0))), none⟩,
  ⟨some 16, .fad 0 (.t 15), none⟩,
  ⟨some 17, .ld true 6 (.t 16), none⟩,
  ⟨some 4, .new 63 6 [.i .i64 (.ofNat 0), .i .i64 (.ofNat 0), .i .i64 (.ofNat 0), .i .i64 (.ofNat 0), .i .i64 (.ofNat 0), .i .i64 (.ofNat 0)], none⟩,
  ⟨none, .st 6 (.t 4) (.t 17), none⟩])
 (.seq (.seq (.reg [⟨some 18, .mv (.t 0), none⟩,
  ⟨some 19, .nilChk (.t 18), none⟩,
  ⟨some 20, .fad 1 (.t 19), none⟩,
  ⟨some 21, .ld false 1 (.t 20), none⟩,
  ⟨some 22, .lenS (.t 21), none⟩,
  ⟨some 23, .mv (.c (.i .i64 (.ofNat 0))), none⟩])
 (.block 0 (.loop (.seq (.reg [⟨some 24, .bin .lss (.t 23) (.t 22), none⟩])
 (.seq (.cond (.t 24) (.skip)
 (.exit 0))
 (.seq (.block 1 (.seq (.reg [⟨some 25, .iadS 8 (.t 21) (.t 23), none⟩,
  ⟨some 26, .ld true 8 (.t 25), none⟩,
  ⟨some 6, .new 133 8 [.i .i64 (.ofNat 0), .i .i64 (.ofNat 0), .i .i64 (.ofNat 0), .i .i64 (.ofNat 0), .i .i64 (.ofNat 0), .i .i64 (.ofNat 0), .sl none 0 0 true, .s []], none⟩,
  ⟨none, .st 8 (.t 6) (.t 26), none⟩])
 (.reg [⟨some 27, .ld true 6 (.t 4), none⟩,
  ⟨some 28, .fad 0 (.t 6), none⟩,
  ⟨some 29, .ld true 6 (.t 28), none⟩,
  ⟨some 30, .call 76 [(.t 27), (.t 29)], none⟩,
  ⟨none, .st 6 (.t 4) (.t 30), none⟩])))
 (.reg [⟨some 31, .bin .add (.t 23) (.c (.i .i64 (.ofNat 1))), none⟩,
  ⟨some 23, .mv (.t 31), none⟩])))))))
 (.seq (.reg [⟨some 32, .ld true 6 (.t 4), none⟩,
  ⟨none, .st 6 (.t 2) (.t 32), none⟩,
  ⟨some 3, .mv (.c (.b true)), none⟩])
 (.ret))))), [.cell true 6 2, .t 3]⟩
def d34 : FDef := ⟨27, .seq (.reg [⟨some 2, .new 63 6 [.i .i64 (.ofNat 0), .i .i64 (.ofNat 0), .i .i64 (.ofNat 0), .i .i64 (.ofNat 0), .i .i64 (.ofNat 0), .i .i64 (.ofNat 0)], none⟩,
  ⟨some 3, .mv (.c (.b false)), none⟩])
 (.seq (.seq (.reg [⟨some 4, .mv (.c (.i .i64 (.ofNat 0))), none⟩])
 (.block 0 (.loop (.seq (.seq (.reg [⟨some 5, .mv (.t 4), none⟩,
  ⟨some 6, .mv (.t 0), none⟩,
  ⟨some 7, .lenS (.t 6), none⟩,
  ⟨some 8, .bin .lss (.t 5) (.t 7), none⟩])
 (.cond (.t 8) (.skip)
 (.exit 0)))
 (.seq (.block 1 (.seq (.seq (.reg [⟨some 11, .mv (.t 3), none⟩,
  ⟨some 12, .un .not (.t 11), none⟩])
 (.cond (.t 12) (.reg [⟨some 13, .mv (.t 0), none⟩,
  ⟨some 14, .mv (.t 4), none⟩,
  ⟨some 15, .iadS 37 (.t 13) (.t 14), none⟩,
  ⟨some 16, .ld true 37 (.t 15), none⟩,
  ⟨some 17, .call 39 [(.t 16)], none⟩,
  ⟨none, .st 6 (.t 2) (.t 17), none⟩,
  ⟨some 3, .mv (.c (.b true)), none⟩])
 (.skip)))
 (.dreg 0 [⟨⟨some 18, .ld true 6 (.t 2), none⟩, 1, [], [], 0⟩,
  ⟨⟨some 19, .mv (.t 0), none⟩, 0, [], [], 0⟩,
  ⟨⟨some 20, .mv (.t 4), none⟩, 0, [], [], 0⟩,
  ⟨⟨some 21, .iadS 37 (.t 19) (.t 20), none⟩, 0, [1, 2], [], 0⟩,
  ⟨⟨some 22, .ld true 37 (.t 21), none⟩, 1, [1, 2, 3], [], 0⟩,
  ⟨⟨some 23, .call 39 [(.t 22)], none⟩, 2, [1, 2, 3, 4], [], 0⟩,
  ⟨⟨some 24, .call 77 [(.t 18), (.t 23)], none⟩, 2, [0, 1, 2, 3, 4, 5], [], 0⟩,
  ⟨⟨none, .st 6 (.t 2) (.t 24), none⟩, 2, [0, 1, 2, 3, 4, 5, 6], [], 0⟩])))
 (.reg [⟨some 9, .mv (.t 4), none⟩,
  ⟨some 10, .bin .add (.t 9) (.c (.i .i64 (.ofNat 1))), none⟩,
  ⟨some 4, .mv (.t 10), none⟩]))))))
 (.seq (.reg [⟨some 25, .ld true 6 (.t 2), none⟩,
  ⟨some 26, .mv (.t 3), none⟩,
  ⟨none, .st 6 (.t 2) (.t 25), none⟩,
  ⟨some 3, .mv (.t 26), none⟩])
 (.ret))), [.cell true 6 2, .t 3]⟩
def d35 : FDef := ⟨33, .seq (.reg [⟨some 3, .box 63 6 (.t 1), none⟩,
  ⟨some 4, .mv (.c (.sl none 0 0 true)), none⟩])
 (.seq (.reg [⟨some 5, .mv (.c (.sl none 0 0 true)), none⟩])
 (.seq (.seq (.reg [⟨some 6, .mv (.c (.i .i64 (.ofNat 0))), none⟩])
 (.block 0 (.loop (.seq (.seq (.reg [⟨some 7, .mv (.t 6), none⟩,
  ⟨some 8, .mv (.t 0), none⟩,
  ⟨some 9, .lenS (.t 8), none⟩,
  ⟨some 10, .bin .lss (.t 7) (.t 9), none⟩])
 (.cond (.t 10) (.skip)
 (.exit 0)))
 (.seq (.block 1 (.seq (.dreg 0 [⟨⟨some 13, .ld true 6 (.t 3), none⟩, 1, [], [], 0⟩,
  ⟨⟨some 14, .call 78 [(.t 13)], none⟩, 2, [0], [], 0⟩,
  ⟨⟨some 15, .bin .eql (.t 14) (.c (.i .i64 (.ofNat 0))), none⟩, 0, [0, 1], [], 0⟩,
  ⟨⟨some 16, .mv (.t 15), none⟩, 0, [0, 1, 2], [], 0⟩,
  ⟨⟨some 17, .mv (.t 0), (some (16, true))⟩, 0, [0, 1, 2, 3], [], 0⟩,
  ⟨⟨some 18, .mv (.t 6), (some (16, true))⟩, 0, [0, 1, 2, 3], [], 0⟩,
  ⟨⟨some 19, .iadS 37 (.t 17) (.t 18), (some (16, true))⟩, 0, [0, 1, 2, 3, 4, 5], [], 0⟩,
  ⟨⟨some 20, .ld true 37 (.t 19), (some (16, true))⟩, 1, [0, 1, 2, 3, 4, 5, 6], [], 0⟩,
  ⟨⟨some 21, .call 39 [(.t 20)], (some (16, true))⟩, 2, [0, 1, 2, 3, 4, 5, 6, 7], [], 0⟩,
  ⟨⟨some 22, .ld true 6 (.t 3), (some (16, true))⟩, 1, [0, 1, 2, 3], [], 0⟩,
  ⟨⟨some 23, .call 79 [(.t 21), (.t 22)], (some (16, true))⟩, 2, [0, 1, 2, 3, 4, 5, 6, 7, 8, 9], [], 0⟩,
  ⟨⟨some 24, .pick (.t 16) (.t 23) (.c (.b false)), none⟩, 0, [0, 1, 2, 3, 4, 5, 6, 7, 8, 9, 10], [], 0⟩])
 (.cond (.t 24) (.reg [⟨some 25, .mv (.t 5), none⟩,
  ⟨some 26, .mv (.t 0), none⟩,
  ⟨some 27, .mv (.t 6), none⟩,
  ⟨some 28, .iadS 37 (.t 26) (.t 27), none⟩,
  ⟨some 29, .ld true 37 (.t 28), none⟩,
  ⟨some 30, .buildS 86 37 1 [.i .i64 (.ofNat 0), .b false, .s [], .b false, .s [], .b false, .s [], .b false, .s [], .b false, .b false, .s [], .b false, .s [], .b false, .s [], .b false, .s [], .b false, .b false, .b false, .b false, .s [], .b false, .s [], .b false, .s [], .b false, .s [], .b false, .s [], .b false, .s [], .b false, .s [], .b false, .s []] [(0, 37, (.t 29))], none⟩,
  ⟨some 31, .app 86 37 416 (.t 25) (.t 30), none⟩,
  ⟨some 5, .mv (.t 31), none⟩])
 (.skip))))
 (.reg [⟨some 11, .mv (.t 6), none⟩,
  ⟨some 12, .bin .add (.t 11) (.c (.i .i64 (.ofNat 1))), none⟩,
  ⟨some 6, .mv (.t 12), none⟩]))))))
 (.seq (.reg [⟨some 32, .mv (.t 5), none⟩,
  ⟨some 4, .mv (.t 32), none⟩])
 (.ret)))), [.t 4]⟩
def d36 : FDef := ⟨15, .seq (.reg [⟨some 3, .box 63 6 (.t 1), none⟩,
  ⟨some 4, .mv (.c (.i .i64 (.ofNat 0))), none⟩])
 (.seq (.seq (.reg [⟨some 5, .mv (.t 0), none⟩,
  ⟨some 6, .eqP false (.t 5) (.c (.p none)), none⟩,
  ⟨some 7, .mv (.t 6), none⟩,
  ⟨some 8, .ld true 6 (.t 3), (some (7, false))⟩,
  ⟨some 9, .call 72 [(.t 8)], (some (7, false))⟩,
  ⟨some 10, .un .not (.t 9), (some (7, false))⟩,
  ⟨some 11, .pick (.t 7) (.c (.b true)) (.t 10), none⟩])
 (.cond (.t 11) (.seq (.reg [⟨some 4, .mv (.c (.i .i64 (.ofNat 0))), none⟩])
 (.ret))
 (.skip)))
 (.seq (.reg [⟨some 12, .mv (.t 0), none⟩,
  ⟨some 13, .mkF (.func 80) [] [(.t 3)], none⟩,
  ⟨some 14, .call 71 [(.t 12), (.t 13)], none⟩,
  ⟨some 4, .mv (.t 14), none⟩])
 (.ret))), [.t 4]⟩
def d37 : FDef := ⟨37, .seq (.reg [⟨some 3, .box 63 6 (.t 1), none⟩,
  ⟨some 4, .mv (.c (.i .i64 (.ofNat 0))), none⟩])
 (.seq (.reg [⟨some 5, .mv (.c (.i .i64 (.ofNat 0))), none⟩])
 (.seq (.reg [⟨some 10, .mv (.t 0), none⟩,
  ⟨some 11, .call 23 [(.t 10)], none⟩,
  ⟨some 6, .mv (.t 11), none⟩])
 (.seq (.seq (.reg [⟨some 7, .mv (.c (.i .i64 (.ofNat 0))), none⟩])
 (.block 0 (.loop (.seq (.seq (.reg [⟨some 12, .mv (.t 7), none⟩,
  ⟨some 13, .mv (.t 6), none⟩,
  ⟨some 14, .lenS (.t 13), none⟩,
  ⟨some 15, .bin .lss (.t 12) (.t 14), none⟩])
 (.cond (.t 15) (.skip)
 (.exit 0)))
 (.seq (.block 1 (.seq (.reg [⟨some 19, .mv (.t 6), none⟩,
  ⟨some 20, .mv (.t 7), none⟩,
  ⟨some 21, .iadS 1 (.t 19) (.t 20), none⟩,
  ⟨some 22, .ld false 1 (.t 21), none⟩,
  ⟨some 23, .call 34 [(.t 22)], none⟩,
  ⟨some 18, .mv (.t 23), none⟩,
  ⟨some 24, .ext 0 (.t 18), none⟩,
  ⟨some 25, .ext 1 (.t 18), none⟩,
  ⟨some 8, .new 63 6 [.i .i64 (.ofNat 0), .i .i64 (.ofNat 0), .i .i64 (.ofNat 0), .i .i64 (.ofNat 0), .i .i64 (.ofNat 0), .i .i64 (.ofNat 0)], none⟩,
  ⟨none, .st 6 (.t 8) (.t 24), none⟩,
  ⟨some 9, .mv (.t 25), none⟩])
 (.seq (.reg [⟨some 26, .ld true 6 (.t 3), none⟩,
  ⟨some 27, .call 78 [(.t 26)], none⟩,
  ⟨some 28, .bin .eql (.t 27) (.c (.i .i64 (.ofNat 0))), none⟩,
  ⟨some 29, .mv (.t 28), none⟩,
  ⟨some 30, .ld true 6 (.t 8), (some (29, true))⟩,
  ⟨some 31, .ld true 6 (.t 3), (some (29, true))⟩,
  ⟨some 32, .call 79 [(.t 30), (.t 31)], (some (29, true))⟩,
  ⟨some 33, .pick (.t 29) (.t 32) (.c (.b false)), none⟩])
 (.cond (.t 33) (.reg [⟨some 34, .mv (.t 5), none⟩,
  ⟨some 35, .bin .add (.t 34) (.c (.i .i64 (.ofNat 1))), none⟩,
  ⟨some 5, .mv (.t 35), none⟩])
 (.skip)))))
 (.reg [⟨some 16, .mv (.t 7), none⟩,
  ⟨some 17, .bin .add (.t 16) (.c (.i .i64 (.ofNat 1))), none⟩,
  ⟨some 7, .mv (.t 17), none⟩]))))))
 (.seq (.reg [⟨some 36, .mv (.t 5), none⟩,
  ⟨some 4, .mv (.t 36), none⟩])
 (.ret))))), [.t 4]⟩
def d38 : FDef := ⟨10, .seq (.reg [⟨some 1, .box 86 37 (.t 0), none⟩,
  ⟨some 2, .new 63 6 [.i .i64 (.ofNat 0), .i .i64 (.ofNat 0), .i .i64 (.ofNat 0), .i .i64 (.ofNat 0), .i .i64 (.ofNat 0), .i .i64 (.ofNat 0)], none⟩,
  ⟨some 3, .mv (.c (.i .i64 (.ofNat 0))), none⟩])
 (.seq (.reg [⟨some 4, .fad 1 (.t 1), none⟩,
  ⟨some 5, .ld true 36 (.t 4), none⟩,
  ⟨some 6, .buildS 84 36 1 [.b false, .s [], .b false, .s [], .b false, .s [], .b false, .s [], .b false, .b false, .s [], .b false, .s [], .b false, .s [], .b false, .s [], .b false, .b false, .b false, .b false, .s [], .b false, .s [], .b false, .s [], .b false, .s [], .b false, .s [], .b false, .s [], .b false, .s [], .b false, .s []] [(0, 36, (.t 5))], none⟩,
  ⟨some 7, .call 57 [(.t 6)], none⟩,
  ⟨some 8, .ext 0 (.t 7), none⟩,
  ⟨some 9, .ext 1 (.t 7), none⟩,
  ⟨none, .st 6 (.t 2) (.t 8), none⟩,
  ⟨some 3, .mv (.t 9), none⟩])
 (.ret)), [.cell true 6 2, .t 3]⟩
def d39 : FDef := ⟨13, .seq (.reg [⟨some 1, .box 86 37 (.t 0), none⟩,
  ⟨some 2, .new 63 6 [.i .i64 (.ofNat 0), .i .i64 (.ofNat 0), .i .i64 (.ofNat 0), .i .i64 (.ofNat 0), .i .i64 (.ofNat 0), .i .i64 (.ofNat 0)], none⟩])
 (.seq (.reg [⟨some 6, .fad 1 (.t 1), none⟩,
  ⟨some 7, .ld true 36 (.t 6), none⟩,
  ⟨some 8, .buildS 84 36 1 [.b false, .s [], .b false, .s [], .b false, .s [], .b false, .s [], .b false, .b false, .s [], .b false, .s [], .b false, .s [], .b false, .s [], .b false, .b false, .b false, .b false, .s [], .b false, .s [], .b false, .s [], .b false, .s [], .b false, .s [], .b false, .s [], .b false, .s [], .b false, .s []] [(0, 36, (.t 7))], none⟩,
  ⟨some 9, .call 57 [(.t 8)], none⟩,
  ⟨some 5, .mv (.t 9), none⟩,
  ⟨some 10, .ext 0 (.t 5), none⟩,
  ⟨some 11, .ext 1 (.t 5), none⟩,
  ⟨some 3, .new 63 6 [.i .i64 (.ofNat 0), .i .i64 (.ofNat 0), .i .i64 (.ofNat 0), .i .i64 (.ofNat 0), .i .i64 (.ofNat 0), .i .i64 (.ofNat 0)], none⟩,
  ⟨none, .st 6 (.t 3) (.t 10), none⟩,
  ⟨some 4, .mv (.t 11), none⟩])
 (.seq (.reg [⟨some 12, .ld true 6 (.t 3), none⟩,
  ⟨none, .st 6 (.t 2) (.t 12), none⟩])
 (.ret))), [.cell true 6 2]⟩
def d40 : FDef := ⟨101, .seq (.reg [⟨some 6, .box 63 6 (.t 2), none⟩,
  ⟨some 8, .mv (.c (.b false)), none⟩])
 (.seq (.reg [⟨some 18, .mv (.t 0), none⟩,
  ⟨some 19, .call 18 [(.t 18)], none⟩,
  ⟨some 17, .mv (.t 19), none⟩,
  ⟨some 20, .ext 0 (.t 17), none⟩,
  ⟨some 21, .ext 1 (.t 17), none⟩,
  ⟨some 9, .mv (.t 20), none⟩,
  ⟨some 10, .mv (.t 21), none⟩])
 (.seq (.seq (.reg [⟨some 22, .mv (.t 10), none⟩,
  ⟨some 23, .bin .neq (.t 22) (.c (.i .i64 (.ofNat 0))), none⟩])
 (.cond (.t 23) (.seq (.reg [⟨some 24, .mv (.t 9), none⟩,
  ⟨some 25, .eqP false (.t 24) (.c (.p none)), none⟩,
  ⟨some 8, .mv (.t 25), none⟩])
 (.ret))
 (.skip)))
 (.seq (.reg [⟨some 27, .mv (.t 9), none⟩,
  ⟨some 28, .call 20 [(.t 27)], none⟩,
  ⟨some 26, .mv (.t 28), none⟩,
  ⟨some 29, .ext 0 (.t 26), none⟩,
  ⟨some 30, .ext 1 (.t 26), none⟩,
  ⟨some 11, .mv (.t 29), none⟩,
  ⟨some 12, .mv (.t 30), none⟩])
 (.seq (.reg [⟨some 32, .mv (.t 9), none⟩,
  ⟨some 33, .ld true 6 (.t 6), none⟩,
  ⟨some 34, .call 32 [(.t 32), (.t 33)], none⟩,
  ⟨some 31, .mv (.t 34), none⟩,
  ⟨some 35, .ext 0 (.t 31), none⟩,
  ⟨some 36, .ext 1 (.t 31), none⟩,
  ⟨some 13, .mv (.t 35), none⟩,
  ⟨some 14, .mv (.t 36), none⟩])
 (.seq (.reg [⟨some 38, .mv (.t 9), none⟩,
  ⟨some 39, .mv (.t 3), none⟩,
  ⟨some 40, .call 27 [(.t 38), (.t 39)], none⟩,
  ⟨some 37, .mv (.t 40), none⟩,
  ⟨some 41, .ext 0 (.t 37), none⟩,
  ⟨some 42, .ext 1 (.t 37), none⟩,
  ⟨some 15, .mv (.t 41), none⟩,
  ⟨some 16, .mv (.t 42), none⟩])
 (.seq (.reg [⟨some 43, .mv (.t 12), none⟩,
  ⟨some 44, .bin .neq (.t 43) (.c (.i .i64 (.ofNat 0))), none⟩,
  ⟨some 45, .mv (.t 44), none⟩,
  ⟨some 46, .mv (.t 11), (some (45, true))⟩,
  ⟨some 47, .lenS (.t 46), (some (45, true))⟩,
  ⟨some 48, .bin .eql (.t 47) (.c (.i .i64 (.ofNat 0))), (some (45, true))⟩,
  ⟨some 49, .pick (.t 45) (.t 48) (.c (.b false)), none⟩,
  ⟨some 50, .mv (.t 49), none⟩,
  ⟨some 51, .mv (.t 11), (some (50, false))⟩,
  ⟨some 52, .mv (.t 1), (some (50, false))⟩,
  ⟨some 53, .call 16 [(.t 51), (.t 52)], (some (50, false))⟩,
  ⟨some 54, .pick (.t 50) (.c (.b true)) (.t 53), none⟩,
  ⟨some 55, .mv (.t 54), none⟩,
  ⟨some 56, .mv (.t 14), (some (55, true))⟩,
  ⟨some 57, .bin .neq (.t 56) (.c (.i .i64 (.ofNat 0))), (some (55, true))⟩,
  ⟨some 58, .mv (.t 57), (some (55, true))⟩,
  ⟨some 59, .mv (.t 13), (some (58, true))⟩,
  ⟨some 60, .lenS (.t 59), (some (58, true))⟩,
  ⟨some 61, .bin .eql (.t 60) (.c (.i .i64 (.ofNat 0))), (some (58, true))⟩,
  ⟨some 62, .pick (.t 58) (.t 61) (.c (.b false)), (some (55, true))⟩,
  ⟨some 63, .mv (.t 62), (some (55, true))⟩,
  ⟨some 64, .mv (.t 13), (some (63, false))⟩,
  ⟨some 65, .mv (.t 1), (some (63, false))⟩,
  ⟨some 66, .ld true 6 (.t 6), (some (63, false))⟩,
  ⟨some 67, .call 35 [(.t 65), (.t 66)], (some (63, false))⟩,
  ⟨some 68, .call 16 [(.t 64), (.t 67)], (some (63, false))⟩,
  ⟨some 69, .pick (.t 63) (.c (.b true)) (.t 68), (some (55, true))⟩,
  ⟨some 70, .pick (.t 55) (.t 69) (.c (.b false)), none⟩,
  ⟨some 71, .mv (.t 70), none⟩,
  ⟨some 72, .mv (.t 16), (some (71, true))⟩,
  ⟨some 73, .bin .neq (.t 72) (.c (.i .i64 (.ofNat 0))), (some (71, true))⟩,
  ⟨some 74, .mv (.t 73), (some (71, true))⟩,
  ⟨some 75, .mv (.t 15), (some (74, true))⟩,
  ⟨some 76, .lenS (.t 75), (some (74, true))⟩,
  ⟨some 77, .bin .eql (.t 76) (.c (.i .i64 (.ofNat 0))), (some (74, true))⟩,
  ⟨some 78, .pick (.t 74) (.t 77) (.c (.b false)), (some (71, true))⟩,
  ⟨some 79, .mv (.t 78), (some (71, true))⟩,
  ⟨some 80, .mv (.t 15), (some (79, false))⟩,
  ⟨some 81, .mv (.t 1), (some (79, false))⟩,
  ⟨some 82, .mv (.t 3), (some (79, false))⟩,
  ⟨some 83, .call 29 [(.t 81), (.t 82)], (some (79, false))⟩,
  ⟨some 84, .call 28 [(.t 80), (.t 83)], (some (79, false))⟩,
  ⟨some 85, .pick (.t 79) (.c (.b true)) (.t 84), (some (71, true))⟩,
  ⟨some 86, .pick (.t 71) (.t 85) (.c (.b false)), none⟩,
  ⟨some 87, .mv (.t 86), none⟩,
  ⟨some 88, .mv (.t 9), (some (87, true))⟩,
  ⟨some 89, .call 21 [(.t 88)], (some (87, true))⟩,
  ⟨some 90, .mv (.t 1), (some (87, true))⟩,
  ⟨some 91, .lenS (.t 90), (some (87, true))⟩,
  ⟨some 92, .bin .eql (.t 89) (.t 91), (some (87, true))⟩,
  ⟨some 93, .pick (.t 87) (.t 92) (.c (.b false)), none⟩,
  ⟨some 94, .mv (.t 93), none⟩,
  ⟨some 95, .mv (.t 9), (some (94, true))⟩,
  ⟨some 96, .call 25 [(.t 95)], (some (94, true))⟩,
  ⟨some 97, .mv (.t 1), (some (94, true))⟩,
  ⟨some 98, .call 26 [(.t 97)], (some (94, true))⟩,
  ⟨some 99, .call 24 [(.t 96), (.t 98)], (some (94, true))⟩,
  ⟨some 100, .pick (.t 94) (.t 99) (.c (.b false)), none⟩,
  ⟨some 8, .mv (.t 100), none⟩])
 (.ret))))))), [.t 8]⟩
def d41 : FDef := ⟨13, .seq (.reg [⟨some 4, .new 84 36 [.b false, .s [], .b false, .s [], .b false, .s [], .b false, .s [], .b false, .b false, .s [], .b false, .s [], .b false, .s [], .b false, .s [], .b false, .b false, .b false, .b false, .s [], .b false, .s [], .b false, .s [], .b false, .s [], .b false, .s [], .b false, .s [], .b false, .s [], .b false, .s []], none⟩])
 (.seq (.reg [⟨some 5, .mv (.t 0), none⟩,
  ⟨some 6, .call 81 [(.t 5)], none⟩,
  ⟨some 7, .mv (.t 1), none⟩,
  ⟨some 8, .call 81 [(.t 7)], none⟩,
  ⟨some 9, .build [.b false, .s [], .b false, .s [], .b false, .s [], .b false, .s [], .b false, .b false, .s [], .b false, .s [], .b false, .s [], .b false, .s [], .b false, .b false, .b false] [(0, 9, (.t 6)), (9, 9, (.t 8)), (19, 1, (.c (.b true)))], none⟩,
  ⟨some 10, .call 43 [(.c (.i .i64 (.ofNat 1)))], none⟩,
  ⟨some 11, .build [.b false, .s [], .b false, .s [], .b false, .s [], .b false, .s [], .b false, .s [], .b false, .s [], .b false, .s [], .b false, .s []] [(4, 4, (.t 10))], none⟩,
  ⟨some 12, .build [.b false, .s [], .b false, .s [], .b false, .s [], .b false, .s [], .b false, .b false, .s [], .b false, .s [], .b false, .s [], .b false, .s [], .b false, .b false, .b false, .b false, .s [], .b false, .s [], .b false, .s [], .b false, .s [], .b false, .s [], .b false, .s [], .b false, .s [], .b false, .s []] [(0, 20, (.t 9)), (20, 16, (.t 11))], none⟩,
  ⟨none, .st 36 (.t 4) (.t 12), none⟩])
 (.ret)), [.cell true 36 4]⟩
def d42 : FDef := ⟨20, .seq (.reg [⟨some 2, .box 76 4 (.t 0), none⟩,
  ⟨some 3, .box 76 4 (.t 1), none⟩,
  ⟨some 4, .new 76 4 [.b false, .s [], .b false, .s []], none⟩])
 (.seq (.reg [⟨some 9, .ld true 4 (.t 2), none⟩,
  ⟨some 10, .ld true 4 (.t 3), none⟩,
  ⟨some 11, .call 82 [(.t 9), (.t 10)], none⟩,
  ⟨some 8, .mv (.t 11), none⟩,
  ⟨some 12, .ext 0 (.t 8), none⟩,
  ⟨some 13, .ext 1 (.t 8), none⟩,
  ⟨some 14, .ext 2 (.t 8), none⟩,
  ⟨some 5, .new 74 2 [.b false, .s []], none⟩,
  ⟨some 6, .new 74 2 [.b false, .s []], none⟩,
  ⟨some 7, .new 74 2 [.b false, .s []], none⟩,
  ⟨none, .st 2 (.t 5) (.t 12), none⟩,
  ⟨none, .st 2 (.t 6) (.t 13), none⟩,
  ⟨none, .st 2 (.t 7) (.t 14), none⟩])
 (.seq (.dreg 0 [⟨⟨some 15, .ld true 2 (.t 5), none⟩, 1, [], [], 0⟩,
  ⟨⟨some 16, .ld true 2 (.t 6), none⟩, 1, [], [], 0⟩,
  ⟨⟨some 17, .call 84 [(.t 15), (.t 16)], none⟩, 2, [0, 1], [], 0⟩,
  ⟨⟨some 18, .ld true 2 (.t 7), none⟩, 1, [], [], 0⟩,
  ⟨⟨some 19, .call 83 [(.t 17), (.t 18)], none⟩, 2, [0, 1, 2, 3], [], 0⟩,
  ⟨⟨none, .st 4 (.t 4) (.t 19), none⟩, 2, [0, 1, 2, 3, 4], [], 0⟩])
 (.ret))), [.cell true 4 4]⟩
def d43 : FDef := ⟨6, .seq (.reg [⟨some 2, .new 76 4 [.b false, .s [], .b false, .s []], none⟩])
 (.seq (.reg [⟨some 3, .mv (.t 0), none⟩,
  ⟨some 4, .call 85 [(.t 3)], none⟩,
  ⟨some 5, .build [.b false, .s [], .b false, .s []] [(0, 2, (.t 4))], none⟩,
  ⟨none, .st 4 (.t 2) (.t 5), none⟩])
 (.ret)), [.cell true 4 2]⟩
def d44 : FDef := ⟨16, .seq (.reg [⟨some 2, .box 76 4 (.t 0), none⟩,
  ⟨some 3, .box 76 4 (.t 1), none⟩,
  ⟨some 4, .new 76 4 [.b false, .s [], .b false, .s []], none⟩])
 (.seq (.dreg 0 [⟨⟨some 5, .fad 0 (.t 2), none⟩, 0, [], [], 0⟩,
  ⟨⟨some 6, .ld true 2 (.t 5), none⟩, 1, [0], [], 0⟩,
  ⟨⟨some 7, .fad 0 (.t 3), none⟩, 0, [], [], 0⟩,
  ⟨⟨some 8, .ld true 2 (.t 7), none⟩, 1, [2], [], 0⟩,
  ⟨⟨some 9, .call 86 [(.t 6), (.t 8)], none⟩, 2, [0, 1, 2, 3], [], 0⟩,
  ⟨⟨some 10, .ld true 4 (.t 2), none⟩, 1, [], [], 0⟩,
  ⟨⟨some 11, .call 87 [(.t 10)], none⟩, 2, [0, 1, 2, 3, 4, 5], [], 0⟩,
  ⟨⟨some 12, .ld true 4 (.t 3), none⟩, 1, [], [], 0⟩,
  ⟨⟨some 13, .call 87 [(.t 12)], none⟩, 2, [0, 1, 2, 3, 4, 5, 6, 7], [], 0⟩,
  ⟨⟨some 14, .call 86 [(.t 11), (.t 13)], none⟩, 2, [0, 1, 2, 3, 4, 5, 6, 7, 8], [], 0⟩,
  ⟨⟨some 15, .call 83 [(.t 9), (.t 14)], none⟩, 2, [0, 1, 2, 3, 4, 5, 6, 7, 8, 9], [], 0⟩,
  ⟨⟨none, .st 4 (.t 4) (.t 15), none⟩, 2, [0, 1, 2, 3, 4, 5, 6, 7, 8, 9, 10], [], 0⟩])
 (.ret)), [.cell true 4 4]⟩
def d45 : FDef := ⟨29, .seq (.reg [⟨some 1, .box 25 2 (.t 0), none⟩,
  ⟨some 2, .mv (.c (.sl none 0 0 true)), none⟩])
 (.seq (.reg [⟨some 3, .mv (.c (.sl none 0 0 true)), none⟩])
 (.seq (.seq (.reg [⟨some 4, .mv (.c (.i .i64 (.ofNat 0))), none⟩])
 (.block 0 (.loop (.seq (.seq (.reg [⟨some 5, .mv (.t 4), none⟩,
  ⟨some 6, .fad 0 (.t 1), none⟩,
  ⟨some 7, .ld false 1 (.t 6), none⟩,
  ⟨some 8, .lenS (.t 7), none⟩,
  ⟨some 9, .bin .lss (.t 5) (.t 8), none⟩,
  ⟨some 10, .mv (.t 9), none⟩,
  ⟨some 11, .mv (.t 4), (some (10, true))⟩,
  ⟨some 12, .bin .lss (.t 11) (.c (.i .i64 (.ofNat 4))), (some (10, true))⟩,
  ⟨some 13, .pick (.t 10) (.t 12) (.c (.b false)), none⟩])
 (.cond (.t 13) (.skip)
 (.exit 0)))
 (.seq (.block 1 (.reg [⟨some 16, .mv (.t 3), none⟩,
  ⟨some 17, .mv (.t 4), none⟩,
  ⟨some 18, .bin .add (.t 17) (.c (.i .i64 (.ofNat 1))), none⟩,
  ⟨some 19, .fad 0 (.t 1), none⟩,
  ⟨some 20, .ld false 1 (.t 19), none⟩,
  ⟨some 21, .mv (.t 4), none⟩,
  ⟨some 22, .iadS 4 (.t 20) (.t 21), none⟩,
  ⟨some 23, .ld true 4 (.t 22), none⟩,
  ⟨some 24, .call 88 [(.t 23)], none⟩,
  ⟨some 25, .build [.i .i64 (.ofNat 0), .sl none 0 0 true] [(0, 1, (.t 18)), (1, 1, (.t 24))], none⟩,
  ⟨some 26, .buildS 106 2 1 [.i .i64 (.ofNat 0), .sl none 0 0 true] [(0, 2, (.t 25))], none⟩,
  ⟨some 27, .app 106 2 32 (.t 16) (.t 26), none⟩,
  ⟨some 3, .mv (.t 27), none⟩]))
 (.reg [⟨some 14, .mv (.t 4), none⟩,
  ⟨some 15, .bin .add (.t 14) (.c (.i .i64 (.ofNat 1))), none⟩,
  ⟨some 4, .mv (.t 15), none⟩]))))))
 (.seq (.reg [⟨some 28, .mv (.t 3), none⟩,
  ⟨some 2, .mv (.t 28), none⟩])
 (.ret)))), [.t 2]⟩
def d46 : FDef := ⟨19, .seq (.reg [⟨some 4, .mv (.c (.i .i64 (.ofNat 0))), none⟩,
  ⟨some 5, .mv (.c (.ni)), none⟩])
 (.seq (.reg [⟨some 6, .mv (.t 0), none⟩,
  ⟨some 7, .call 89 [(.t 6)], none⟩])
 (.seq (.reg [⟨some 8, .mv (.t 0), none⟩,
  ⟨some 9, .mv (.t 0), none⟩,
  ⟨some 10, .nilChk (.t 9), none⟩,
  ⟨some 11, .fad 1 (.t 10), none⟩,
  ⟨some 12, .ld false 1 (.t 11), none⟩,
  ⟨some 13, .mv (.t 1), none⟩,
  ⟨some 14, .app 5 1 1 (.t 12) (.t 13), none⟩,
  ⟨some 15, .nilChk (.t 8), none⟩,
  ⟨some 16, .fad 1 (.t 15), none⟩,
  ⟨none, .st 1 (.t 16) (.t 14), none⟩])
 (.seq (.reg [⟨some 17, .mv (.t 1), none⟩,
  ⟨some 18, .lenT (.t 17), none⟩,
  ⟨some 4, .mv (.t 18), none⟩,
  ⟨some 5, .mv (.c (.ni)), none⟩])
 (.ret)))), [.t 4, .t 5]⟩
def d47 : FDef := ⟨9, .seq (.reg [⟨some 2, .mv (.c (.s [])), none⟩])
 (.seq (.reg [⟨some 3, .new 155 1 [.sl none 0 0 true], none⟩])
 (.seq (.reg [⟨some 4, .mv (.t 0), none⟩,
  ⟨some 5, .call 90 [(.t 3), (.t 4)], none⟩])
 (.seq (.reg [⟨some 6, .fad 0 (.t 3), none⟩,
  ⟨some 7, .ld false 1 (.t 6), none⟩,
  ⟨some 8, .bts (.t 7), none⟩,
  ⟨some 2, .mv (.t 8), none⟩])
 (.ret)))), [.t 2]⟩
def d48 : FDef := ⟨9, .seq (.reg [⟨some 2, .box 31 1 (.t 0), none⟩,
  ⟨some 3, .box 3 1 (.t 1), none⟩,
  ⟨some 4, .mv (.c (.nf)), none⟩])
 (.seq (.seq (.reg [⟨some 5, .ld false 1 (.t 3), none⟩,
  ⟨some 6, .bin .lss (.t 5) (.c (.i .i64 (.ofNat 1))), none⟩])
 (.cond (.t 6) (.bad)
 (.skip)))
 (.seq (.reg [⟨some 8, .mkF (.func 91) [] [(.t 2), (.t 3)], none⟩,
  ⟨some 4, .mv (.t 8), none⟩])
 (.ret))), [.t 4]⟩
def d49 : FDef := ⟨37, .seq (.reg [⟨some 2, .mv (.c (.s [])), none⟩])
 (.seq (.reg [⟨some 3, .new 109 2 [.p none, .sl none 0 0 true], none⟩])
 (.seq (.reg [⟨some 8, .mv (.t 0), none⟩,
  ⟨some 9, .lenS (.t 8), none⟩,
  ⟨some 10, .call 47 [(.t 9)], none⟩,
  ⟨some 11, .call 46 [(.t 3), (.t 10)], none⟩])
 (.seq (.seq (.reg [⟨some 12, .mv (.t 0), none⟩,
  ⟨some 13, .lenS (.t 12), none⟩,
  ⟨some 14, .mv (.c (.i .i64 (.ofNat 0))), none⟩])
 (.block 0 (.loop (.seq (.reg [⟨some 15, .bin .lss (.t 14) (.t 13), none⟩])
 (.seq (.cond (.t 15) (.skip)
 (.exit 0))
 (.seq (.block 1 (.seq (.reg [⟨some 16, .iadS 37 (.t 12) (.t 14), none⟩,
  ⟨some 17, .ld true 37 (.t 16), none⟩,
  ⟨some 5, .new 86 37 [.i .i64 (.ofNat 0), .b false, .s [], .b false, .s [], .b false, .s [], .b false, .s [], .b false, .b false, .s [], .b false, .s [], .b false, .s [], .b false, .s [], .b false, .b false, .b false, .b false, .s [], .b false, .s [], .b false, .s [], .b false, .s [], .b false, .s [], .b false, .s [], .b false, .s [], .b false, .s []], none⟩,
  ⟨none, .st 37 (.t 5) (.t 17), none⟩])
 (.seq (.reg [⟨some 19, .fad 1 (.t 5), none⟩,
  ⟨some 20, .ld true 36 (.t 19), none⟩,
  ⟨some 21, .buildS 84 36 1 [.b false, .s [], .b false, .s [], .b false, .s [], .b false, .s [], .b false, .b false, .s [], .b false, .s [], .b false, .s [], .b false, .s [], .b false, .b false, .b false, .b false, .s [], .b false, .s [], .b false, .s [], .b false, .s [], .b false, .s [], .b false, .s [], .b false, .s [], .b false, .s []] [(0, 36, (.t 20))], none⟩,
  ⟨some 22, .call 92 [(.t 21)], none⟩,
  ⟨some 18, .mv (.t 22), none⟩,
  ⟨some 23, .ext 0 (.t 18), none⟩,
  ⟨some 24, .ext 1 (.t 18), none⟩,
  ⟨some 6, .mv (.t 23), none⟩,
  ⟨some 7, .mv (.t 24), none⟩])
 (.reg [⟨some 25, .fad 0 (.t 5), none⟩,
  ⟨some 26, .ld false 1 (.t 25), none⟩,
  ⟨some 27, .call 47 [(.t 26)], none⟩,
  ⟨some 28, .mv (.t 6), none⟩,
  ⟨some 29, .lenT (.t 28), none⟩,
  ⟨some 30, .call 47 [(.t 29)], none⟩,
  ⟨some 31, .bin .add (.t 27) (.t 30), none⟩,
  ⟨some 32, .mv (.t 6), none⟩,
  ⟨some 33, .bin .add (.t 31) (.t 32), none⟩,
  ⟨some 34, .call 46 [(.t 3), (.t 33)], none⟩]))))
 (.reg [⟨some 35, .bin .add (.t 14) (.c (.i .i64 (.ofNat 1))), none⟩,
  ⟨some 14, .mv (.t 35), none⟩])))))))
 (.seq (.reg [⟨some 36, .call 55 [(.t 3)], none⟩,
  ⟨some 2, .mv (.t 36), none⟩])
 (.ret))))), [.t 2]⟩
def d50 : FDef := ⟨16, .seq (.reg [⟨some 1, .box 63 6 (.t 0), none⟩,
  ⟨some 2, .new 119 1 [.i .i64 (.ofNat 0), .i .i64 (.ofNat 0), .i .i64 (.ofNat 0), .i .i64 (.ofNat 0), .i .i64 (.ofNat 0), .i .i64 (.ofNat 0)], none⟩])
 (.seq (.reg [⟨some 3, .fad 0 (.t 1), none⟩,
  ⟨some 4, .ld false 1 (.t 3), none⟩,
  ⟨some 5, .fad 1 (.t 1), none⟩,
  ⟨some 6, .ld false 1 (.t 5), none⟩,
  ⟨some 7, .fad 2 (.t 1), none⟩,
  ⟨some 8, .ld false 1 (.t 7), none⟩,
  ⟨some 9, .fad 3 (.t 1), none⟩,
  ⟨some 10, .ld false 1 (.t 9), none⟩,
  ⟨some 11, .fad 4 (.t 1), none⟩,
  ⟨some 12, .ld false 1 (.t 11), none⟩,
  ⟨some 13, .fad 5 (.t 1), none⟩,
  ⟨some 14, .ld false 1 (.t 13), none⟩,
  ⟨some 15, .build [.i .i64 (.ofNat 0), .i .i64 (.ofNat 0), .i .i64 (.ofNat 0), .i .i64 (.ofNat 0), .i .i64 (.ofNat 0), .i .i64 (.ofNat 0)] [(0, 1, (.t 4)), (1, 1, (.t 6)), (2, 1, (.t 8)), (3, 1, (.t 10)), (4, 1, (.t 12)), (5, 1, (.t 14))], none⟩,
  ⟨none, .st 6 (.t 2) (.t 15), none⟩])
 (.ret)), [.cell true 6 2]⟩
def d51 : FDef := ⟨28, .seq (.reg [⟨some 2, .new 63 6 [.i .i64 (.ofNat 0), .i .i64 (.ofNat 0), .i .i64 (.ofNat 0), .i .i64 (.ofNat 0), .i .i64 (.ofNat 0), .i .i64 (.ofNat 0)], none⟩])
 (.seq (.reg [⟨some 3, .new 63 6 [.i .i64 (.ofNat 0), .i .i64 (.ofNat 0), .i .i64 (.ofNat 0), .i .i64 (.ofNat 0), .i .i64 (.ofNat 0), .i .i64 (.ofNat 0)], none⟩])
 (.seq (.seq (.reg [⟨some 8, .mv (.t 0), none⟩,
  ⟨some 9, .lenS (.t 8), none⟩,
  ⟨some 10, .mv (.c (.i .i64 (.ofNat 0))), none⟩])
 (.block 0 (.loop (.seq (.reg [⟨some 11, .bin .lss (.t 10) (.t 9), none⟩])
 (.seq (.cond (.t 11) (.skip)
 (.exit 0))
 (.seq (.block 1 (.seq (.reg [⟨some 12, .mv (.t 10), none⟩,
  ⟨some 13, .iadS 37 (.t 8) (.t 10), none⟩,
  ⟨some 14, .ld true 37 (.t 13), none⟩,
  ⟨some 5, .new 86 37 [.i .i64 (.ofNat 0), .b false, .s [], .b false, .s [], .b false, .s [], .b false, .s [], .b false, .b false, .s [], .b false, .s [], .b false, .s [], .b false, .s [], .b false, .b false, .b false, .b false, .s [], .b false, .s [], .b false, .s [], .b false, .s [], .b false, .s [], .b false, .s [], .b false, .s [], .b false, .s []], none⟩,
  ⟨some 4, .mv (.t 12), none⟩,
  ⟨none, .st 37 (.t 5) (.t 14), none⟩])
 (.seq (.reg [⟨some 16, .ld true 37 (.t 5), none⟩,
  ⟨some 17, .call 38 [(.t 16)], none⟩,
  ⟨some 15, .mv (.t 17), none⟩,
  ⟨some 18, .ext 0 (.t 15), none⟩,
  ⟨some 19, .ext 1 (.t 15), none⟩,
  ⟨some 6, .new 63 6 [.i .i64 (.ofNat 0), .i .i64 (.ofNat 0), .i .i64 (.ofNat 0), .i .i64 (.ofNat 0), .i .i64 (.ofNat 0), .i .i64 (.ofNat 0)], none⟩,
  ⟨none, .st 6 (.t 6) (.t 18), none⟩,
  ⟨some 7, .mv (.t 19), none⟩])
 (.seq (.seq (.reg [⟨some 20, .mv (.t 4), none⟩,
  ⟨some 21, .bin .eql (.t 20) (.c (.i .i64 (.ofNat 0))), none⟩])
 (.cond (.t 21) (.reg [⟨some 22, .ld true 6 (.t 6), none⟩,
  ⟨none, .st 6 (.t 3) (.t 22), none⟩])
 (.skip)))
 (.reg [⟨some 23, .ld true 6 (.t 3), none⟩,
  ⟨some 24, .ld true 6 (.t 6), none⟩,
  ⟨some 25, .call 76 [(.t 23), (.t 24)], none⟩,
  ⟨none, .st 6 (.t 3) (.t 25), none⟩])))))
 (.reg [⟨some 26, .bin .add (.t 10) (.c (.i .i64 (.ofNat 1))), none⟩,
  ⟨some 10, .mv (.t 26), none⟩])))))))
 (.seq (.reg [⟨some 27, .ld true 6 (.t 3), none⟩,
  ⟨none, .st 6 (.t 2) (.t 27), none⟩])
 (.ret)))), [.cell true 6 2]⟩
def d52 : FDef := ⟨20, .seq (.reg [⟨some 2, .mv (.c (.sl none 0 0 true)), none⟩])
 (.seq (.reg [⟨some 3, .mv (.c (.sl none 0 0 true)), none⟩])
 (.seq (.seq (.reg [⟨some 6, .mv (.t 0), none⟩,
  ⟨some 7, .lenS (.t 6), none⟩,
  ⟨some 8, .mv (.c (.i .i64 (.ofNat 0))), none⟩])
 (.block 0 (.loop (.seq (.reg [⟨some 9, .bin .lss (.t 8) (.t 7), none⟩])
 (.seq (.cond (.t 9) (.skip)
 (.exit 0))
 (.seq (.block 1 (.seq (.reg [⟨some 10, .iadS 37 (.t 6) (.t 8), none⟩,
  ⟨some 11, .ld true 37 (.t 10), none⟩,
  ⟨some 5, .new 86 37 [.i .i64 (.ofNat 0), .b false, .s [], .b false, .s [], .b false, .s [], .b false, .s [], .b false, .b false, .s [], .b false, .s [], .b false, .s [], .b false, .s [], .b false, .b false, .b false, .b false, .s [], .b false, .s [], .b false, .s [], .b false, .s [], .b false, .s [], .b false, .s [], .b false, .s [], .b false, .s []], none⟩,
  ⟨none, .st 37 (.t 5) (.t 11), none⟩])
 (.reg [⟨some 12, .mv (.t 3), none⟩,
  ⟨some 13, .fad 0 (.t 5), none⟩,
  ⟨some 14, .ld false 1 (.t 13), none⟩,
  ⟨some 15, .buildS 3 1 1 [.i .i64 (.ofNat 0)] [(0, 1, (.t 14))], none⟩,
  ⟨some 16, .app 3 1 8 (.t 12) (.t 15), none⟩,
  ⟨some 3, .mv (.t 16), none⟩])))
 (.reg [⟨some 17, .bin .add (.t 8) (.c (.i .i64 (.ofNat 1))), none⟩,
  ⟨some 8, .mv (.t 17), none⟩])))))))
 (.seq (.reg [⟨some 18, .mv (.t 3), none⟩,
  ⟨some 19, .call 68 [(.t 18)], none⟩,
  ⟨some 2, .mv (.t 19), none⟩])
 (.ret)))), [.t 2]⟩
def d53 : FDef := ⟨44, .seq (.reg [⟨some 2, .mv (.c (.s [])), none⟩])
 (.seq (.reg [⟨some 3, .mv (.c (.i .u32 (.ofNat 4294967295))), none⟩])
 (.seq (.seq (.reg [⟨some 6, .mv (.t 0), none⟩,
  ⟨some 7, .lenT (.t 6), none⟩,
  ⟨some 8, .mv (.c (.i .i64 (.ofNat 0))), none⟩])
 (.block 0 (.loop (.seq (.reg [⟨some 9, .bin .lss (.t 8) (.t 7), none⟩])
 (.seq (.cond (.t 9) (.skip)
 (.exit 0))
 (.seq (.block 1 (.seq (.reg [⟨some 10, .mv (.t 8), none⟩,
  ⟨some 4, .mv (.t 10), none⟩])
 (.seq (.reg [⟨some 11, .mv (.t 3), none⟩,
  ⟨some 12, .mv (.t 0), none⟩,
  ⟨some 13, .mv (.t 4), none⟩,
  ⟨some 14, .idxT (.t 12) (.t 13), none⟩,
  ⟨some 15, .conv .u32 (.t 14), none⟩,
  ⟨some 16, .bin .xor (.t 11) (.t 15), none⟩,
  ⟨some 3, .mv (.t 16), none⟩])
 (.seq (.reg [⟨some 17, .mv (.c (.i .i64 (.ofNat 0))), none⟩])
 (.block 2 (.loop (.seq (.reg [⟨some 18, .bin .lss (.t 17) (.c (.i .i64 (.ofNat 8))), none⟩])
 (.seq (.cond (.t 18) (.skip)
 (.exit 2))
 (.seq (.block 3 (.seq (.reg [⟨some 19, .mv (.t 3), none⟩,
  ⟨some 20, .bin .and (.t 19) (.c (.i .u32 (.ofNat 1))), none⟩,
  ⟨some 5, .mv (.t 20), none⟩])
 (.seq (.reg [⟨some 21, .mv (.t 3), none⟩,
  ⟨some 22, .bin .shr (.t 21) (.c (.i .u64 (.ofNat 1))), none⟩,
  ⟨some 3, .mv (.t 22), none⟩])
 (.seq (.reg [⟨some 23, .mv (.t 5), none⟩,
  ⟨some 24, .bin .eql (.t 23) (.c (.i .u32 (.ofNat 1))), none⟩])
 (.cond (.t 24) (.reg [⟨some 25, .mv (.t 3), none⟩,
  ⟨some 26, .bin .xor (.t 25) (.c (.i .u32 (.ofNat 3988292384))), none⟩,
  ⟨some 3, .mv (.t 26), none⟩])
 (.skip))))))
 (.reg [⟨some 27, .bin .add (.t 17) (.c (.i .i64 (.ofNat 1))), none⟩,
  ⟨some 17, .mv (.t 27), none⟩]))))))))))
 (.reg [⟨some 28, .bin .add (.t 8) (.c (.i .i64 (.ofNat 1))), none⟩,
  ⟨some 8, .mv (.t 28), none⟩])))))))
 (.seq (.reg [⟨some 29, .mv (.t 3), none⟩,
  ⟨some 30, .un .xor (.t 29), none⟩,
  ⟨some 3, .mv (.t 30), none⟩])
 (.seq (.reg [⟨some 31, .mv (.t 3), none⟩,
  ⟨some 32, .bin .shr (.t 31) (.c (.i .u64 (.ofNat 24))), none⟩,
  ⟨some 33, .conv .u8 (.t 32), none⟩,
  ⟨some 34, .mv (.t 3), none⟩,
  ⟨some 35, .bin .shr (.t 34) (.c (.i .u64 (.ofNat 16))), none⟩,
  ⟨some 36, .conv .u8 (.t 35), none⟩,
  ⟨some 37, .mv (.t 3), none⟩,
  ⟨some 38, .bin .shr (.t 37) (.c (.i .u64 (.ofNat 8))), none⟩,
  ⟨some 39, .conv .u8 (.t 38), none⟩,
  ⟨some 40, .mv (.t 3), none⟩,
  ⟨some 41, .conv .u8 (.t 40), none⟩,
  ⟨some 42, .buildS 5 1 4 [.i .u8 (.ofNat 0)] [(0, 1, (.t 33)), (1, 1, (.t 36)), (2, 1, (.t 39)), (3, 1, (.t 41))], none⟩,
  ⟨some 43, .bts (.t 42), none⟩,
  ⟨some 2, .mv (.t 43), none⟩])
 (.ret))))), [.t 2]⟩
def d54 : FDef := ⟨8, .seq (.reg [⟨some 2, .mv (.c (.i .i64 (.ofNat 0))), none⟩])
 (.seq (.reg [⟨some 3, .mv (.t 0), none⟩,
  ⟨some 4, .nilChk (.t 3), none⟩,
  ⟨some 5, .fad 1 (.t 4), none⟩,
  ⟨some 6, .ld false 1 (.t 5), none⟩,
  ⟨some 7, .lenS (.t 6), none⟩,
  ⟨some 2, .mv (.t 7), none⟩])
 (.ret)), [.t 2]⟩
def d55 : FDef := ⟨14, .seq (.reg [⟨some 2, .mv (.c (.s [])), none⟩])
 (.seq (.bad)
 (.ret)), [.t 2]⟩
def d56 : FDef := ⟨8, .seq (.reg [⟨some 2, .mv (.c (.i .i64 (.ofNat 0))), none⟩])
 (.seq (.reg [⟨some 3, .build [] [], none⟩,
  ⟨some 4, .mkI 163 (.t 3), none⟩,
  ⟨some 5, .mv (.t 0), none⟩,
  ⟨some 6, .call 94 [(.t 5)], none⟩,
  ⟨some 7, .call 93 [(.t 4), (.t 6)], none⟩,
  ⟨some 2, .mv (.t 7), none⟩])
 (.ret)), [.t 2]⟩
def tr0 : Tr := .n 29 d29 (.n 15 d15 (.n 8 d8 (.n 5 d5 (.n 3 d3 (.n 2 d2 (.l) (.l)) (.n 4 d4 (.l) (.l))) (.n 7 d7 (.n 6 d6 (.l) (.l)) (.l))) (.n 12 d12 (.n 10 d10 (.n 9 d9 (.l) (.l)) (.n 11 d11 (.l) (.l))) (.n 14 d14 (.n 13 d13 (.l) (.l)) (.l)))) (.n 22 d22 (.n 19 d19 (.n 17 d17 (.n 16 d16 (.l) (.l)) (.n 18 d18 (.l) (.l))) (.n 21 d21 (.n 20 d20 (.l) (.l)) (.l))) (.n 26 d26 (.n 24 d24 (.n 23 d23 (.l) (.l)) (.n 25 d25 (.l) (.l))) (.n 28 d28 (.n 27 d27 (.l) (.l)) (.l))))) (.n 43 d43 (.n 36 d36 (.n 33 d33 (.n 31 d31 (.n 30 d30 (.l) (.l)) (.n 32 d32 (.l) (.l))) (.n 35 d35 (.n 34 d34 (.l) (.l)) (.l))) (.n 40 d40 (.n 38 d38 (.n 37 d37 (.l) (.l)) (.n 39 d39 (.l) (.l))) (.n 42 d42 (.n 41 d41 (.l) (.l)) (.l)))) (.n 50 d50 (.n 47 d47 (.n 45 d45 (.n 44 d44 (.l) (.l)) (.n 46 d46 (.l) (.l))) (.n 49 d49 (.n 48 d48 (.l) (.l)) (.l))) (.n 54 d54 (.n 52 d52 (.n 51 d51 (.l) (.l)) (.n 53 d53 (.l) (.l))) (.n 56 d56 (.n 55 d55 (.l) (.l)) (.l)))))
theorem chk0 : chkTr Go.Proofs.Tryz.prog tr0 = true := by kernel_rfl
end Go.Em
