/- The functions of the program as instructions of the abstract machine, part 2. -/
import Derived.Test.YtokhjbkkpbceeaaGreatDoorEv
import Derived.Test.YtokhjbkkpbceeaaGreatDoorProg
namespace Go.Em
open Go
def d120 : FDef := ⟨97, .seq (.reg [⟨some 4, .mv (.c (.s [])), none⟩])
 (.seq (.seq (.reg [⟨some 18, .mv (.t 0), none⟩,
  ⟨some 19, .mv (.t 1), none⟩,
  ⟨some 20, .call 154 [(.t 18), (.t 19)], none⟩,
  ⟨some 17, .mv (.t 20), none⟩,
  ⟨some 21, .ext 0 (.t 17), none⟩,
  ⟨some 22, .ext 1 (.t 17), none⟩,
  ⟨some 23, .ext 2 (.t 17), none⟩,
  ⟨some 5, .mv (.t 21), none⟩,
  ⟨some 6, .mv (.t 22), none⟩,
  ⟨some 7, .mv (.t 23), none⟩])
 (.seq (.reg [⟨some 24, .mv (.t 7), none⟩])
 (.cond (.t 24) (.seq (.reg [⟨some 26, .mv (.t 5), none⟩,
  ⟨some 27, .mv (.t 6), none⟩,
  ⟨some 28, .call 162 [(.t 26), (.t 27)], none⟩,
  ⟨some 25, .mv (.t 28), none⟩,
  ⟨some 29, .ext 0 (.t 25), none⟩,
  ⟨some 30, .ext 1 (.t 25), none⟩,
  ⟨some 8, .mv (.t 29), none⟩,
  ⟨some 9, .mv (.t 30), none⟩])
 (.seq (.reg [⟨some 31, .mv (.t 8), none⟩,
  ⟨some 32, .bin .eql (.t 31) (.c (.i .u64 (.ofNat 0))), none⟩])
 (.cond (.t 32) (.seq (.reg [⟨some 33, .mv (.t 9), none⟩,
  ⟨some 34, .call 119 [(.t 33)], none⟩,
  ⟨some 4, .mv (.t 34), none⟩])
 (.ret))
 (.skip))))
 (.skip))))
 (.seq (.reg [⟨some 35, .mv (.t 0), none⟩,
  ⟨some 36, .call 157 [(.t 35)], none⟩,
  ⟨some 37, .mv (.t 1), none⟩,
  ⟨some 38, .call 157 [(.t 37)], none⟩,
  ⟨some 10, .mv (.t 36), none⟩,
  ⟨some 11, .mv (.t 38), none⟩])
 (.seq (.reg [⟨some 39, .mv (.t 10), none⟩,
  ⟨some 40, .lenS (.t 39), none⟩,
  ⟨some 41, .mv (.t 11), none⟩,
  ⟨some 42, .lenS (.t 41), none⟩,
  ⟨some 43, .bin .add (.t 40) (.t 42), none⟩,
  ⟨some 44, .bin .add (.t 43) (.c (.i .i64 (.ofNat 1))), none⟩,
  ⟨some 45, .mkS 159 1 4 [.i .u32 (.ofNat 0)] (.t 44) (.t 44), none⟩,
  ⟨some 12, .mv (.t 45), none⟩])
 (.seq (.seq (.reg [⟨some 46, .mv (.t 10), none⟩,
  ⟨some 47, .lenS (.t 46), none⟩,
  ⟨some 48, .mv (.c (.i .i64 (.ofNat 0))), none⟩])
 (.block 0 (.loop (.seq (.reg [⟨some 49, .bin .lss (.t 48) (.t 47), none⟩])
 (.seq (.cond (.t 49) (.skip)
 (.exit 0))
 (.seq (.block 1 (.seq (.reg [⟨some 50, .mv (.t 48), none⟩,
  ⟨some 51, .iadS 1 (.t 46) (.t 48), none⟩,
  ⟨some 52, .ld false 1 (.t 51), none⟩,
  ⟨some 13, .mv (.t 50), none⟩,
  ⟨some 14, .mv (.t 52), none⟩])
 (.seq (.reg [⟨some 15, .mv (.c (.i .u64 (.ofNat 0))), none⟩])
 (.seq (.seq (.reg [⟨some 53, .mv (.t 11), none⟩,
  ⟨some 54, .lenS (.t 53), none⟩,
  ⟨some 55, .mv (.c (.i .i64 (.ofNat 0))), none⟩])
 (.block 2 (.loop (.seq (.reg [⟨some 56, .bin .lss (.t 55) (.t 54), none⟩])
 (.seq (.cond (.t 56) (.skip)
 (.exit 2))
 (.seq (.block 3 (.seq (.reg [⟨some 57, .mv (.t 55), none⟩,
  ⟨some 16, .mv (.t 57), none⟩])
 (.seq (.dreg 0 [⟨⟨some 58, .mv (.t 15), none⟩, 0, [], [], 0⟩,
  ⟨⟨some 59, .mv (.t 12), none⟩, 0, [], [], 0⟩,
  ⟨⟨some 60, .mv (.t 13), none⟩, 0, [], [], 0⟩,
  ⟨⟨some 61, .mv (.t 16), none⟩, 0, [], [], 0⟩,
  ⟨⟨some 62, .bin .add (.t 60) (.t 61), none⟩, 0, [2, 3], [], 0⟩,
  ⟨⟨some 63, .iadS 1 (.t 59) (.t 62), none⟩, 0, [1, 2, 3, 4], [], 0⟩,
  ⟨⟨some 64, .ld false 1 (.t 63), none⟩, 1, [1, 2, 3, 4, 5], [], 0⟩,
  ⟨⟨some 65, .conv .u64 (.t 64), none⟩, 0, [1, 2, 3, 4, 5, 6], [], 0⟩,
  ⟨⟨some 66, .mv (.t 14), none⟩, 0, [], [], 0⟩,
  ⟨⟨some 67, .conv .u64 (.t 66), none⟩, 0, [8], [], 0⟩,
  ⟨⟨some 68, .mv (.t 11), none⟩, 0, [], [], 0⟩,
  ⟨⟨some 69, .mv (.t 16), none⟩, 0, [], [], 0⟩,
  ⟨⟨some 70, .iadS 1 (.t 68) (.t 69), none⟩, 0, [10, 11], [], 0⟩,
  ⟨⟨some 71, .ld false 1 (.t 70), none⟩, 1, [10, 11, 12], [], 0⟩,
  ⟨⟨some 72, .conv .u64 (.t 71), none⟩, 0, [10, 11, 12, 13], [], 0⟩,
  ⟨⟨some 73, .bin .mul (.t 67) (.t 72), none⟩, 0, [8, 9, 10, 11, 12, 13, 14], [], 0⟩,
  ⟨⟨some 74, .bin .add (.t 65) (.t 73), none⟩, 0, [1, 2, 3, 4, 5, 6, 7, 8, 9, 10, 11, 12, 13, 14, 15], [], 0⟩,
  ⟨⟨some 75, .bin .add (.t 58) (.t 74), none⟩, 0, [0, 1, 2, 3, 4, 5, 6, 7, 8, 9, 10, 11, 12, 13, 14, 15, 16], [], 0⟩,
  ⟨⟨some 15, .mv (.t 75), none⟩, 0, [0, 1, 2, 3, 4, 5, 6, 7, 8, 9, 10, 11, 12, 13, 14, 15, 16, 17], [], 0⟩])
 (.reg [⟨some 76, .mv (.t 12), none⟩,
  ⟨some 77, .mv (.t 13), none⟩,
  ⟨some 78, .mv (.t 16), none⟩,
  ⟨some 79, .bin .add (.t 77) (.t 78), none⟩,
  ⟨some 80, .mv (.t 15), none⟩,
  ⟨some 81, .conv .u32 (.t 80), none⟩,
  ⟨some 82, .mv (.t 15), none⟩,
  ⟨some 83, .bin .shr (.t 82) (.c (.i .u64 (.ofNat 32))), none⟩,
  ⟨some 84, .iadS 1 (.t 76) (.t 79), none⟩,
  ⟨none, .st 1 (.t 84) (.t 81), none⟩,
  ⟨some 15, .mv (.t 83), none⟩]))))
 (.reg [⟨some 85, .bin .add (.t 55) (.c (.i .i64 (.ofNat 1))), none⟩,
  ⟨some 55, .mv (.t 85), none⟩])))))))
 (.reg [⟨some 86, .mv (.t 12), none⟩,
  ⟨some 87, .mv (.t 13), none⟩,
  ⟨some 88, .mv (.t 11), none⟩,
  ⟨some 89, .lenS (.t 88), none⟩,
  ⟨some 90, .bin .add (.t 87) (.t 89), none⟩,
  ⟨some 91, .mv (.t 15), none⟩,
  ⟨some 92, .conv .u32 (.t 91), none⟩,
  ⟨some 93, .iadS 1 (.t 86) (.t 90), none⟩,
  ⟨none, .st 1 (.t 93) (.t 92), none⟩])))))
 (.reg [⟨some 94, .bin .add (.t 48) (.c (.i .i64 (.ofNat 1))), none⟩,
  ⟨some 48, .mv (.t 94), none⟩])))))))
 (.seq (.reg [⟨some 95, .mv (.t 12), none⟩,
  ⟨some 96, .call 158 [(.t 95)], none⟩,
  ⟨some 4, .mv (.t 96), none⟩])
 (.ret)))))), [.t 4]⟩
def d121 : FDef := ⟨15, .seq (.reg [⟨some 6, .new 197 12 [.b false, .s [], .b false, .s [], .b false, .s [], .b false, .s [], .b false, .s [], .b false, .s []], none⟩])
 (.seq (.reg [⟨some 7, .mv (.t 0), none⟩,
  ⟨some 8, .call 43 [(.t 7)], none⟩,
  ⟨some 9, .mv (.t 1), none⟩,
  ⟨some 10, .call 43 [(.t 9)], none⟩,
  ⟨some 11, .mv (.t 2), none⟩,
  ⟨some 12, .call 43 [(.t 11)], none⟩,
  ⟨some 13, .build [.b false, .s [], .b false, .s [], .b false, .s [], .b false, .s []] [(0, 4, (.t 10)), (4, 4, (.t 12))], none⟩,
  ⟨some 14, .build [.b false, .s [], .b false, .s [], .b false, .s [], .b false, .s [], .b false, .s [], .b false, .s []] [(0, 4, (.t 8)), (4, 8, (.t 13))], none⟩,
  ⟨none, .st 12 (.t 6) (.t 14), none⟩])
 (.ret)), [.cell true 12 6]⟩
def d122 : FDef := ⟨5, .seq (.reg [⟨some 1, .box 76 4 (.t 0), none⟩,
  ⟨some 2, .new 78 9 [.b false, .s [], .b false, .s [], .b false, .s [], .b false, .s [], .b false], none⟩])
 (.seq (.reg [⟨some 3, .ld true 4 (.t 1), none⟩,
  ⟨some 4, .build [.b false, .s [], .b false, .s [], .b false, .s [], .b false, .s [], .b false] [(0, 4, (.t 3))], none⟩,
  ⟨none, .st 9 (.t 2) (.t 4), none⟩])
 (.ret)), [.cell true 9 2]⟩
def d123 : FDef := ⟨46, .seq (.reg [⟨some 2, .box 197 12 (.t 0), none⟩,
  ⟨some 3, .box 197 12 (.t 1), none⟩,
  ⟨some 4, .new 82 16 [.b false, .s [], .b false, .s [], .b false, .s [], .b false, .s [], .b false, .s [], .b false, .s [], .b false, .s [], .b false, .s []], none⟩])
 (.seq (.reg [⟨some 10, .fad 0 (.t 2), none⟩,
  ⟨some 11, .ld true 4 (.t 10), none⟩,
  ⟨some 12, .fad 4 (.t 2), none⟩,
  ⟨some 13, .fad 0 (.t 12), none⟩,
  ⟨some 14, .ld true 4 (.t 13), none⟩,
  ⟨some 15, .fad 0 (.t 3), none⟩,
  ⟨some 16, .ld true 4 (.t 15), none⟩,
  ⟨some 17, .fad 4 (.t 3), none⟩,
  ⟨some 18, .fad 0 (.t 17), none⟩,
  ⟨some 19, .ld true 4 (.t 18), none⟩,
  ⟨some 20, .call 163 [(.t 11), (.t 14), (.t 16), (.t 19)], none⟩,
  ⟨some 9, .mv (.t 20), none⟩,
  ⟨some 21, .ext 0 (.t 9), none⟩,
  ⟨some 22, .ext 1 (.t 9), none⟩,
  ⟨some 5, .new 222 12 [.b false, .s [], .b false, .s [], .b false, .s [], .b false, .s [], .b false, .s [], .b false, .s []], none⟩,
  ⟨none, .st 12 (.t 5) (.t 21), none⟩,
  ⟨some 6, .mv (.t 22), none⟩])
 (.seq (.reg [⟨some 24, .fad 0 (.t 2), none⟩,
  ⟨some 25, .ld true 4 (.t 24), none⟩,
  ⟨some 26, .fad 4 (.t 2), none⟩,
  ⟨some 27, .fad 4 (.t 26), none⟩,
  ⟨some 28, .ld true 4 (.t 27), none⟩,
  ⟨some 29, .fad 0 (.t 3), none⟩,
  ⟨some 30, .ld true 4 (.t 29), none⟩,
  ⟨some 31, .fad 4 (.t 3), none⟩,
  ⟨some 32, .fad 4 (.t 31), none⟩,
  ⟨some 33, .ld true 4 (.t 32), none⟩,
  ⟨some 34, .call 163 [(.t 25), (.t 28), (.t 30), (.t 33)], none⟩,
  ⟨some 23, .mv (.t 34), none⟩,
  ⟨some 35, .ext 0 (.t 23), none⟩,
  ⟨some 36, .ext 1 (.t 23), none⟩,
  ⟨some 7, .new 222 12 [.b false, .s [], .b false, .s [], .b false, .s [], .b false, .s [], .b false, .s [], .b false, .s []], none⟩,
  ⟨none, .st 12 (.t 7) (.t 35), none⟩,
  ⟨some 8, .mv (.t 36), none⟩])
 (.seq (.reg [⟨some 37, .fad 0 (.t 5), none⟩,
  ⟨some 38, .ld true 4 (.t 37), none⟩,
  ⟨some 39, .fad 4 (.t 5), none⟩,
  ⟨some 40, .ld true 4 (.t 39), none⟩,
  ⟨some 41, .fad 0 (.t 7), none⟩,
  ⟨some 42, .ld true 4 (.t 41), none⟩,
  ⟨some 43, .fad 4 (.t 7), none⟩,
  ⟨some 44, .ld true 4 (.t 43), none⟩,
  ⟨some 45, .build [.b false, .s [], .b false, .s [], .b false, .s [], .b false, .s [], .b false, .s [], .b false, .s [], .b false, .s [], .b false, .s []] [(0, 4, (.t 38)), (4, 4, (.t 40)), (8, 4, (.t 42)), (12, 4, (.t 44))], none⟩,
  ⟨none, .st 16 (.t 4) (.t 45), none⟩])
 (.ret)))), [.cell true 16 4]⟩
def d124 : FDef := ⟨8, .seq (.reg [⟨some 1, .box 195 8 (.t 0), none⟩,
  ⟨some 2, .new 82 16 [.b false, .s [], .b false, .s [], .b false, .s [], .b false, .s [], .b false, .s [], .b false, .s [], .b false, .s [], .b false, .s []], none⟩])
 (.seq (.reg [⟨some 3, .fad 0 (.t 1), none⟩,
  ⟨some 4, .ld true 4 (.t 3), none⟩,
  ⟨some 5, .fad 4 (.t 1), none⟩,
  ⟨some 6, .ld true 4 (.t 5), none⟩,
  ⟨some 7, .build [.b false, .s [], .b false, .s [], .b false, .s [], .b false, .s [], .b false, .s [], .b false, .s [], .b false, .s [], .b false, .s []] [(0, 4, (.t 4)), (8, 4, (.t 6))], none⟩,
  ⟨none, .st 16 (.t 2) (.t 7), none⟩])
 (.ret)), [.cell true 16 2]⟩
def d125 : FDef := ⟨17, .seq (.reg [⟨some 2, .mv (.c (.sl none 0 0 true)), none⟩,
  ⟨some 3, .mv (.c (.i .i64 (.ofNat 0))), none⟩])
 (.seq (.reg [⟨some 7, .build [] [], none⟩,
  ⟨some 8, .mkI 163 (.t 7), none⟩,
  ⟨some 9, .mv (.t 0), none⟩,
  ⟨some 10, .call 164 [(.t 9)], none⟩,
  ⟨some 11, .call 130 [(.t 8), (.t 10)], none⟩,
  ⟨some 6, .mv (.t 11), none⟩,
  ⟨some 12, .ext 0 (.t 6), none⟩,
  ⟨some 13, .ext 1 (.t 6), none⟩,
  ⟨some 4, .mv (.t 12), none⟩,
  ⟨some 5, .mv (.t 13), none⟩])
 (.seq (.reg [⟨some 14, .mv (.t 4), none⟩,
  ⟨some 15, .call 165 [(.t 14)], none⟩,
  ⟨some 16, .mv (.t 5), none⟩,
  ⟨some 2, .mv (.t 15), none⟩,
  ⟨some 3, .mv (.t 16), none⟩])
 (.ret))), [.t 2, .t 3]⟩
def d127 : FDef := ⟨8, .seq (.reg [⟨some 2, .box 207 1 (.t 0), none⟩])
 (.reg [⟨some 4, .ld false 1 (.t 2), none⟩,
  ⟨some 5, .mv (.t 1), none⟩,
  ⟨some 6, .mkF (.func 167) [] [(.t 2)], none⟩,
  ⟨some 7, .call 166 [(.t 4), (.t 5), (.t 6)], none⟩]), []⟩
def d128 : FDef := ⟨19, .seq (.reg [⟨some 1, .box 80 20 (.t 0), none⟩,
  ⟨some 2, .mv (.c (.i .i64 (.ofNat 0))), none⟩])
 (.seq (.seq (.reg [⟨some 3, .fad 0 (.t 1), none⟩,
  ⟨some 4, .ld true 9 (.t 3), none⟩,
  ⟨some 5, .call 170 [(.t 4)], none⟩,
  ⟨some 6, .bin .neq (.t 5) (.c (.i .i64 (.ofNat 0))), none⟩,
  ⟨some 7, .mv (.t 6), none⟩,
  ⟨some 8, .fad 9 (.t 1), (some (7, false))⟩,
  ⟨some 9, .ld true 9 (.t 8), (some (7, false))⟩,
  ⟨some 10, .call 170 [(.t 9)], (some (7, false))⟩,
  ⟨some 11, .bin .neq (.t 10) (.c (.i .i64 (.ofNat 0))), (some (7, false))⟩,
  ⟨some 12, .pick (.t 7) (.c (.b true)) (.t 11), none⟩])
 (.cond (.t 12) (.seq (.reg [⟨some 2, .mv (.c (.i .i64 (.ofNat 5))), none⟩])
 (.ret))
 (.skip)))
 (.seq (.seq (.dreg 0 [⟨⟨some 13, .ld true 20 (.t 1), none⟩, 1, [], [], 0⟩,
  ⟨⟨some 14, .call 172 [(.t 13)], none⟩, 2, [0], [], 0⟩,
  ⟨⟨some 15, .ld true 20 (.t 1), none⟩, 1, [], [], 0⟩,
  ⟨⟨some 16, .call 173 [(.t 15)], none⟩, 2, [0, 1, 2], [], 0⟩,
  ⟨⟨some 17, .call 171 [(.t 14), (.t 16)], none⟩, 2, [0, 1, 2, 3], [], 0⟩,
  ⟨⟨some 18, .bin .geq (.t 17) (.c (.i .i64 (.ofNat 0))), none⟩, 0, [0, 1, 2, 3, 4], [], 0⟩])
 (.cond (.t 18) (.seq (.reg [⟨some 2, .mv (.c (.i .i64 (.ofNat 10))), none⟩])
 (.ret))
 (.skip)))
 (.seq (.reg [⟨some 2, .mv (.c (.i .i64 (.ofNat 0))), none⟩])
 (.ret)))), [.t 2]⟩
def d129 : FDef := ⟨25, .seq (.reg [⟨some 2, .box 80 20 (.t 0), none⟩,
  ⟨some 3, .box 80 20 (.t 1), none⟩,
  ⟨some 4, .mv (.c (.b false)), none⟩])
 (.seq (.reg [⟨some 6, .fad 9 (.t 2), none⟩,
  ⟨some 7, .ld true 9 (.t 6), none⟩,
  ⟨some 8, .fad 0 (.t 3), none⟩,
  ⟨some 9, .ld true 9 (.t 8), none⟩,
  ⟨some 10, .call 97 [(.t 7), (.t 9)], none⟩,
  ⟨some 5, .mv (.t 10), none⟩])
 (.seq (.reg [⟨some 11, .mv (.t 5), none⟩,
  ⟨some 12, .bin .lss (.t 11) (.c (.i .i64 (.ofNat 0))), none⟩,
  ⟨some 13, .mv (.t 12), none⟩,
  ⟨some 14, .mv (.t 5), (some (13, false))⟩,
  ⟨some 15, .bin .eql (.t 14) (.c (.i .i64 (.ofNat 0))), (some (13, false))⟩,
  ⟨some 16, .mv (.t 15), (some (13, false))⟩,
  ⟨some 17, .fad 19 (.t 2), (some (16, true))⟩,
  ⟨some 18, .ld false 1 (.t 17), (some (16, true))⟩,
  ⟨some 19, .mv (.t 18), (some (16, true))⟩,
  ⟨some 20, .fad 18 (.t 3), (some (19, false))⟩,
  ⟨some 21, .ld false 1 (.t 20), (some (19, false))⟩,
  ⟨some 22, .pick (.t 19) (.c (.b true)) (.t 21), (some (16, true))⟩,
  ⟨some 23, .pick (.t 16) (.t 22) (.c (.b false)), (some (13, false))⟩,
  ⟨some 24, .pick (.t 13) (.c (.b true)) (.t 23), none⟩,
  ⟨some 4, .mv (.t 24), none⟩])
 (.ret))), [.t 4]⟩
def d130 : FDef := ⟨219, .seq (.reg [⟨some 4, .mv (.c (.sl none 0 0 true)), none⟩,
  ⟨some 5, .mv (.c (.i .i64 (.ofNat 0))), none⟩])
 (.seq (.reg [⟨some 14, .mv (.t 1), none⟩,
  ⟨some 15, .call 174 [(.t 14)], none⟩,
  ⟨some 1, .mv (.t 15), none⟩])
 (.seq (.seq (.reg [⟨some 16, .mv (.t 1), none⟩,
  ⟨some 17, .lenS (.t 16), none⟩,
  ⟨some 18, .mv (.c (.i .i64 (.ofNat 0))), none⟩])
 (.block 0 (.loop (.seq (.reg [⟨some 19, .bin .lss (.t 18) (.t 17), none⟩])
 (.seq (.cond (.t 19) (.skip)
 (.exit 0))
 (.seq (.block 1 (.seq (.reg [⟨some 20, .mv (.t 18), none⟩,
  ⟨some 6, .mv (.t 20), none⟩])
 (.seq (.dreg 0 [⟨⟨some 21, .mv (.t 6), none⟩, 0, [], [], 0⟩,
  ⟨⟨some 22, .bin .gtr (.t 21) (.c (.i .i64 (.ofNat 0))), none⟩, 0, [0], [], 0⟩,
  ⟨⟨some 23, .mv (.t 22), none⟩, 0, [0, 1], [], 0⟩,
  ⟨⟨some 24, .mv (.t 1), (some (23, true))⟩, 0, [0, 1, 2], [], 0⟩,
  ⟨⟨some 25, .mv (.t 6), (some (23, true))⟩, 0, [0, 1, 2], [], 0⟩,
  ⟨⟨some 26, .bin .sub (.t 25) (.c (.i .i64 (.ofNat 1))), (some (23, true))⟩, 0, [0, 1, 2, 4], [], 0⟩,
  ⟨⟨some 27, .iadS 36 (.t 24) (.t 26), (some (23, true))⟩, 0, [0, 1, 2, 3, 4, 5], [], 0⟩,
  ⟨⟨some 28, .fad 0 (.t 27), (some (23, true))⟩, 0, [0, 1, 2, 3, 4, 5, 6], [], 0⟩,
  ⟨⟨some 29, .ld true 20 (.t 28), (some (23, true))⟩, 1, [0, 1, 2, 3, 4, 5, 6, 7], [], 0⟩,
  ⟨⟨some 30, .mv (.t 1), (some (23, true))⟩, 0, [0, 1, 2], [], 0⟩,
  ⟨⟨some 31, .mv (.t 6), (some (23, true))⟩, 0, [0, 1, 2], [], 0⟩,
  ⟨⟨some 32, .iadS 36 (.t 30) (.t 31), (some (23, true))⟩, 0, [0, 1, 2, 9, 10], [], 0⟩,
  ⟨⟨some 33, .fad 0 (.t 32), (some (23, true))⟩, 0, [0, 1, 2, 9, 10, 11], [], 0⟩,
  ⟨⟨some 34, .ld true 20 (.t 33), (some (23, true))⟩, 1, [0, 1, 2, 9, 10, 11, 12], [], 0⟩,
  ⟨⟨some 35, .call 129 [(.t 29), (.t 34)], (some (23, true))⟩, 2, [0, 1, 2, 3, 4, 5, 6, 7, 8, 9, 10, 11, 12, 13], [], 0⟩,
  ⟨⟨some 36, .un .not (.t 35), (some (23, true))⟩, 0, [0, 1, 2, 3, 4, 5, 6, 7, 8, 9, 10, 11, 12, 13, 14], [], 0⟩,
  ⟨⟨some 37, .pick (.t 23) (.t 36) (.c (.b false)), none⟩, 0, [0, 1, 2, 3, 4, 5, 6, 7, 8, 9, 10, 11, 12, 13, 14, 15], [], 0⟩])
 (.cond (.t 37) (.seq (.reg [⟨some 4, .mv (.c (.sl none 0 0 true)), none⟩,
  ⟨some 5, .mv (.c (.i .i64 (.ofNat 11))), none⟩])
 (.ret))
 (.skip)))))
 (.reg [⟨some 38, .bin .add (.t 18) (.c (.i .i64 (.ofNat 1))), none⟩,
  ⟨some 18, .mv (.t 38), none⟩])))))))
 (.seq (.reg [⟨some 7, .mv (.c (.sl none 0 0 true)), none⟩])
 (.seq (.reg [⟨some 39, .mv (.t 1), none⟩,
  ⟨some 40, .call 175 [(.t 39)], none⟩,
  ⟨some 8, .mv (.t 40), none⟩])
 (.seq (.seq (.reg [⟨some 41, .mv (.t 8), none⟩,
  ⟨some 42, .lenS (.t 41), none⟩,
  ⟨some 43, .mv (.c (.i .i64 (.ofNat 0))), none⟩])
 (.block 2 (.loop (.seq (.reg [⟨some 44, .bin .lss (.t 43) (.t 42), none⟩])
 (.seq (.cond (.t 44) (.skip)
 (.exit 2))
 (.seq (.block 3 (.seq (.reg [⟨some 45, .mv (.t 43), none⟩,
  ⟨some 46, .iadS 36 (.t 41) (.t 43), none⟩,
  ⟨some 47, .ld true 36 (.t 46), none⟩,
  ⟨some 10, .new 211 36 [.b false, .s [], .b false, .s [], .b false, .s [], .b false, .s [], .b false, .b false, .s [], .b false, .s [], .b false, .s [], .b false, .s [], .b false, .b false, .b false, .b false, .s [], .b false, .s [], .b false, .s [], .b false, .s [], .b false, .s [], .b false, .s [], .b false, .s [], .b false, .s []], none⟩,
  ⟨some 9, .mv (.t 45), none⟩,
  ⟨none, .st 36 (.t 10) (.t 47), none⟩])
 (.seq (.reg [⟨some 48, .fad 0 (.t 10), none⟩,
  ⟨some 49, .fad 0 (.t 48), none⟩,
  ⟨some 50, .ld true 9 (.t 49), none⟩,
  ⟨some 11, .new 78 9 [.b false, .s [], .b false, .s [], .b false, .s [], .b false, .s [], .b false], none⟩,
  ⟨none, .st 9 (.t 11) (.t 50), none⟩])
 (.seq (.reg [⟨some 12, .mv (.c (.p none)), none⟩])
 (.seq (.seq (.reg [⟨some 51, .mv (.t 7), none⟩,
  ⟨some 52, .lenS (.t 51), none⟩,
  ⟨some 13, .mv (.t 52), none⟩])
 (.seq (.dreg 0 [⟨⟨some 53, .mv (.t 13), none⟩, 0, [], [], 0⟩,
  ⟨⟨some 54, .bin .gtr (.t 53) (.c (.i .i64 (.ofNat 0))), none⟩, 0, [0], [], 0⟩,
  ⟨⟨some 55, .mv (.t 54), none⟩, 0, [0, 1], [], 0⟩,
  ⟨⟨some 56, .mv (.t 7), (some (55, true))⟩, 0, [0, 1, 2], [], 0⟩,
  ⟨⟨some 57, .mv (.t 13), (some (55, true))⟩, 0, [0, 1, 2], [], 0⟩,
  ⟨⟨some 58, .bin .sub (.t 57) (.c (.i .i64 (.ofNat 1))), (some (55, true))⟩, 0, [0, 1, 2, 4], [], 0⟩,
  ⟨⟨some 59, .iadS 36 (.t 56) (.t 58), (some (55, true))⟩, 0, [0, 1, 2, 3, 4, 5], [], 0⟩,
  ⟨⟨some 60, .fad 0 (.t 59), (some (55, true))⟩, 0, [0, 1, 2, 3, 4, 5, 6], [], 0⟩,
  ⟨⟨some 61, .fad 9 (.t 60), (some (55, true))⟩, 0, [0, 1, 2, 3, 4, 5, 6, 7], [], 0⟩,
  ⟨⟨some 62, .ld true 9 (.t 61), (some (55, true))⟩, 1, [0, 1, 2, 3, 4, 5, 6, 7, 8], [], 0⟩,
  ⟨⟨some 63, .ld true 9 (.t 11), (some (55, true))⟩, 1, [0, 1, 2], [], 0⟩,
  ⟨⟨some 64, .eqC false [.b, .s, .b, .s, .b, .s, .b, .s, .b] (.t 62) (.t 63), (some (55, true))⟩, 0, [0, 1, 2, 3, 4, 5, 6, 7, 8, 9, 10], [], 0⟩,
  ⟨⟨some 65, .pick (.t 55) (.t 64) (.c (.b false)), none⟩, 0, [0, 1, 2, 3, 4, 5, 6, 7, 8, 9, 10, 11], [], 0⟩,
  ⟨⟨some 66, .mv (.t 65), none⟩, 0, [0, 1, 2, 3, 4, 5, 6, 7, 8, 9, 10, 11, 12], [], 0⟩,
  ⟨⟨some 67, .mv (.t 7), (some (66, true))⟩, 0, [0, 1, 2, 3, 4, 5, 6, 7, 8, 9, 10, 11, 12, 13], [], 0⟩,
  ⟨⟨some 68, .mv (.t 13), (some (66, true))⟩, 0, [0, 1, 2, 3, 4, 5, 6, 7, 8, 9, 10, 11, 12, 13], [], 0⟩,
  ⟨⟨some 69, .bin .sub (.t 68) (.c (.i .i64 (.ofNat 1))), (some (66, true))⟩, 0, [0, 1, 2, 3, 4, 5, 6, 7, 8, 9, 10, 11, 12, 13, 15], [], 0⟩,
  ⟨⟨some 70, .iadS 36 (.t 67) (.t 69), (some (66, true))⟩, 0, [0, 1, 2, 3, 4, 5, 6, 7, 8, 9, 10, 11, 12, 13, 14, 15, 16], [], 0⟩,
  ⟨⟨some 71, .fad 0 (.t 70), (some (66, true))⟩, 0, [0, 1, 2, 3, 4, 5, 6, 7, 8, 9, 10, 11, 12, 13, 14, 15, 16, 17], [], 0⟩,
  ⟨⟨some 72, .ld true 20 (.t 71), (some (66, true))⟩, 1, [0, 1, 2, 3, 4, 5, 6, 7, 8, 9, 10, 11, 12, 13, 14, 15, 16, 17, 18], [], 0⟩,
  ⟨⟨some 73, .call 176 [(.t 72)], (some (66, true))⟩, 2, [0, 1, 2, 3, 4, 5, 6, 7, 8, 9, 10, 11, 12, 13, 14, 15, 16, 17, 18, 19], [], 0⟩,
  ⟨⟨some 74, .un .not (.t 73), (some (66, true))⟩, 0, [0, 1, 2, 3, 4, 5, 6, 7, 8, 9, 10, 11, 12, 13, 14, 15, 16, 17, 18, 19, 20], [], 0⟩,
  ⟨⟨some 75, .pick (.t 66) (.t 74) (.c (.b false)), none⟩, 0, [0, 1, 2, 3, 4, 5, 6, 7, 8, 9, 10, 11, 12, 13, 14, 15, 16, 17, 18, 19, 20, 21], [], 0⟩])
 (.cond (.t 75) (.reg [⟨some 76, .mv (.t 7), none⟩,
  ⟨some 77, .mv (.t 13), none⟩,
  ⟨some 78, .bin .sub (.t 77) (.c (.i .i64 (.ofNat 1))), none⟩,
  ⟨some 79, .iadS 36 (.t 76) (.t 78), none⟩,
  ⟨some 12, .mv (.t 79), none⟩])
 (.skip))))
 (.block 4 (.seq (.reg [⟨some 91, .fad 0 (.t 10), none⟩,
  ⟨some 92, .ld true 20 (.t 91), none⟩,
  ⟨some 93, .call 176 [(.t 92)], none⟩,
  ⟨some 94, .un .not (.t 93), none⟩,
  ⟨some 90, .mv (.t 94), none⟩])
 (.cond (.t 90) (.seq (.seq (.dreg 0 [⟨⟨some 95, .mv (.t 12), none⟩, 0, [], [], 0⟩,
  ⟨⟨some 96, .eqP true (.t 95) (.c (.p none)), none⟩, 0, [0], [], 0⟩,
  ⟨⟨some 97, .mv (.t 96), none⟩, 0, [0, 1], [], 0⟩,
  ⟨⟨some 98, .mv (.t 12), (some (97, true))⟩, 0, [0, 1, 2], [], 0⟩,
  ⟨⟨some 99, .nilChk (.t 98), (some (97, true))⟩, 0, [0, 1, 2, 3], [], 0⟩,
  ⟨⟨some 100, .fad 0 (.t 99), (some (97, true))⟩, 0, [0, 1, 2, 3, 4], [], 0⟩,
  ⟨⟨some 101, .fad 19 (.t 100), (some (97, true))⟩, 0, [0, 1, 2, 3, 4, 5], [], 0⟩,
  ⟨⟨some 102, .ld false 1 (.t 101), (some (97, true))⟩, 1, [0, 1, 2, 3, 4, 5, 6], [], 0⟩,
  ⟨⟨some 103, .un .not (.t 102), (some (97, true))⟩, 0, [0, 1, 2, 3, 4, 5, 6, 7], [], 0⟩,
  ⟨⟨some 104, .pick (.t 97) (.t 103) (.c (.b false)), none⟩, 0, [0, 1, 2, 3, 4, 5, 6, 7, 8], [], 0⟩,
  ⟨⟨some 105, .mv (.t 104), none⟩, 0, [0, 1, 2, 3, 4, 5, 6, 7, 8, 9], [], 0⟩,
  ⟨⟨some 106, .mv (.t 0), (some (105, true))⟩, 0, [0, 1, 2, 3, 4, 5, 6, 7, 8, 9, 10], [], 0⟩,
  ⟨⟨some 107, .mv (.t 12), (some (105, true))⟩, 0, [0, 1, 2, 3, 4, 5, 6, 7, 8, 9, 10], [], 0⟩,
  ⟨⟨some 108, .nilChk (.t 107), (some (105, true))⟩, 0, [0, 1, 2, 3, 4, 5, 6, 7, 8, 9, 10, 12], [], 0⟩,
  ⟨⟨some 109, .fad 20 (.t 108), (some (105, true))⟩, 0, [0, 1, 2, 3, 4, 5, 6, 7, 8, 9, 10, 12, 13], [], 0⟩,
  ⟨⟨some 110, .ld true 16 (.t 109), (some (105, true))⟩, 1, [0, 1, 2, 3, 4, 5, 6, 7, 8, 9, 10, 12, 13, 14], [], 0⟩,
  ⟨⟨some 111, .fad 20 (.t 10), (some (105, true))⟩, 0, [0, 1, 2, 3, 4, 5, 6, 7, 8, 9, 10], [], 0⟩,
  ⟨⟨some 112, .ld true 16 (.t 111), (some (105, true))⟩, 1, [0, 1, 2, 3, 4, 5, 6, 7, 8, 9, 10, 16], [], 0⟩,
  ⟨⟨some 113, .mkF (.method "Equal") [(.t 106)] [], (some (105, true))⟩, 0, [0, 1, 2, 3, 4, 5, 6, 7, 8, 9, 10, 11], [], 0⟩,
  ⟨⟨some 114, .nilChk (.t 113), (some (105, true))⟩, 0, [0, 1, 2, 3, 4, 5, 6, 7, 8, 9, 10, 11, 18], [], 0⟩,
  ⟨⟨some 115, .mv (.t 106), (some (105, true))⟩, 0, [0, 1, 2, 3, 4, 5, 6, 7, 8, 9, 10, 11, 18, 19], [], 0⟩,
  ⟨⟨some 116, .callI (.t 115) "Equal" [(.t 110), (.t 112)], (some (105, true))⟩, 2, [0, 1, 2, 3, 4, 5, 6, 7, 8, 9, 10, 11, 12, 13, 14, 15, 16, 17, 18, 19, 20], [], 0⟩,
  ⟨⟨some 117, .pick (.t 105) (.t 116) (.c (.b false)), none⟩, 0, [0, 1, 2, 3, 4, 5, 6, 7, 8, 9, 10, 11, 12, 13, 14, 15, 16, 17, 18, 19, 20, 21], [], 0⟩])
 (.cond (.t 117) (.seq (.reg [⟨some 118, .mv (.t 12), none⟩,
  ⟨some 119, .mv (.t 12), none⟩,
  ⟨some 120, .fad 0 (.t 10), none⟩,
  ⟨some 121, .fad 9 (.t 120), none⟩,
  ⟨some 122, .ld true 9 (.t 121), none⟩,
  ⟨some 123, .nilChk (.t 118), none⟩,
  ⟨some 124, .fad 0 (.t 123), none⟩,
  ⟨some 125, .fad 9 (.t 124), none⟩,
  ⟨none, .st 9 (.t 125) (.t 122), none⟩,
  ⟨some 126, .nilChk (.t 119), none⟩,
  ⟨some 127, .fad 0 (.t 126), none⟩,
  ⟨some 128, .fad 19 (.t 127), none⟩,
  ⟨none, .st 1 (.t 128) (.c (.b true)), none⟩])
 (.exit 3))
 (.skip)))
 (.seq (.seq (.dreg 0 [⟨⟨some 129, .mv (.t 9), none⟩, 0, [], [], 0⟩,
  ⟨⟨some 130, .bin .gtr (.t 129) (.c (.i .i64 (.ofNat 0))), none⟩, 0, [0], [], 0⟩,
  ⟨⟨some 131, .mv (.t 130), none⟩, 0, [0, 1], [], 0⟩,
  ⟨⟨some 132, .mv (.t 8), (some (131, true))⟩, 0, [0, 1, 2], [], 0⟩,
  ⟨⟨some 133, .mv (.t 9), (some (131, true))⟩, 0, [0, 1, 2], [], 0⟩,
  ⟨⟨some 134, .bin .sub (.t 133) (.c (.i .i64 (.ofNat 1))), (some (131, true))⟩, 0, [0, 1, 2, 4], [], 0⟩,
  ⟨⟨some 135, .iadS 36 (.t 132) (.t 134), (some (131, true))⟩, 0, [0, 1, 2, 3, 4, 5], [], 0⟩,
  ⟨⟨some 136, .fad 0 (.t 135), (some (131, true))⟩, 0, [0, 1, 2, 3, 4, 5, 6], [], 0⟩,
  ⟨⟨some 137, .ld true 20 (.t 136), (some (131, true))⟩, 1, [0, 1, 2, 3, 4, 5, 6, 7], [], 0⟩,
  ⟨⟨some 138, .call 176 [(.t 137)], (some (131, true))⟩, 2, [0, 1, 2, 3, 4, 5, 6, 7, 8], [], 0⟩,
  ⟨⟨some 139, .pick (.t 131) (.t 138) (.c (.b false)), none⟩, 0, [0, 1, 2, 3, 4, 5, 6, 7, 8, 9], [], 0⟩,
  ⟨⟨some 140, .mv (.t 139), none⟩, 0, [0, 1, 2, 3, 4, 5, 6, 7, 8, 9, 10], [], 0⟩,
  ⟨⟨some 141, .mv (.t 8), (some (140, true))⟩, 0, [0, 1, 2, 3, 4, 5, 6, 7, 8, 9, 10, 11], [], 0⟩,
  ⟨⟨some 142, .mv (.t 9), (some (140, true))⟩, 0, [0, 1, 2, 3, 4, 5, 6, 7, 8, 9, 10, 11], [], 0⟩,
  ⟨⟨some 143, .bin .sub (.t 142) (.c (.i .i64 (.ofNat 1))), (some (140, true))⟩, 0, [0, 1, 2, 3, 4, 5, 6, 7, 8, 9, 10, 11, 13], [], 0⟩,
  ⟨⟨some 144, .iadS 36 (.t 141) (.t 143), (some (140, true))⟩, 0, [0, 1, 2, 3, 4, 5, 6, 7, 8, 9, 10, 11, 12, 13, 14], [], 0⟩,
  ⟨⟨some 145, .fad 0 (.t 144), (some (140, true))⟩, 0, [0, 1, 2, 3, 4, 5, 6, 7, 8, 9, 10, 11, 12, 13, 14, 15], [], 0⟩,
  ⟨⟨some 146, .fad 0 (.t 145), (some (140, true))⟩, 0, [0, 1, 2, 3, 4, 5, 6, 7, 8, 9, 10, 11, 12, 13, 14, 15, 16], [], 0⟩,
  ⟨⟨some 147, .ld true 9 (.t 146), (some (140, true))⟩, 1, [0, 1, 2, 3, 4, 5, 6, 7, 8, 9, 10, 11, 12, 13, 14, 15, 16, 17], [], 0⟩,
  ⟨⟨some 148, .ld true 9 (.t 11), (some (140, true))⟩, 1, [0, 1, 2, 3, 4, 5, 6, 7, 8, 9, 10, 11], [], 0⟩,
  ⟨⟨some 149, .eqC false [.b, .s, .b, .s, .b, .s, .b, .s, .b] (.t 147) (.t 148), (some (140, true))⟩, 0, [0, 1, 2, 3, 4, 5, 6, 7, 8, 9, 10, 11, 12, 13, 14, 15, 16, 17, 18, 19], [], 0⟩,
  ⟨⟨some 150, .pick (.t 140) (.t 149) (.c (.b false)), none⟩, 0, [0, 1, 2, 3, 4, 5, 6, 7, 8, 9, 10, 11, 12, 13, 14, 15, 16, 17, 18, 19, 20], [], 0⟩,
  ⟨⟨some 151, .mv (.t 150), none⟩, 0, [0, 1, 2, 3, 4, 5, 6, 7, 8, 9, 10, 11, 12, 13, 14, 15, 16, 17, 18, 19, 20, 21], [], 0⟩,
  ⟨⟨some 152, .mv (.t 7), (some (151, true))⟩, 0, [0, 1, 2, 3, 4, 5, 6, 7, 8, 9, 10, 11, 12, 13, 14, 15, 16, 17, 18, 19, 20, 21, 22], [], 0⟩,
  ⟨⟨some 153, .ld true 9 (.t 11), (some (151, true))⟩, 1, [0, 1, 2, 3, 4, 5, 6, 7, 8, 9, 10, 11, 12, 13, 14, 15, 16, 17, 18, 19, 20, 21, 22], [], 0⟩,
  ⟨⟨some 154, .call 177 [(.t 152), (.t 153)], (some (151, true))⟩, 2, [0, 1, 2, 3, 4, 5, 6, 7, 8, 9, 10, 11, 12, 13, 14, 15, 16, 17, 18, 19, 20, 21, 22, 23, 24], [], 0⟩,
  ⟨⟨some 155, .un .not (.t 154), (some (151, true))⟩, 0, [0, 1, 2, 3, 4, 5, 6, 7, 8, 9, 10, 11, 12, 13, 14, 15, 16, 17, 18, 19, 20, 21, 22, 23, 24, 25], [], 0⟩,
  ⟨⟨some 156, .pick (.t 151) (.t 155) (.c (.b false)), none⟩, 0, [0, 1, 2, 3, 4, 5, 6, 7, 8, 9, 10, 11, 12, 13, 14, 15, 16, 17, 18, 19, 20, 21, 22, 23, 24, 25, 26], [], 0⟩])
 (.cond (.t 156) (.reg [⟨some 157, .fad 0 (.t 10), none⟩,
  ⟨some 158, .fad 18 (.t 157), none⟩,
  ⟨none, .st 1 (.t 158) (.c (.b false)), none⟩])
 (.skip)))
 (.reg [⟨some 159, .mv (.t 7), none⟩,
  ⟨some 160, .ld true 36 (.t 10), none⟩,
  ⟨some 161, .buildS 211 36 1 [.b false, .s [], .b false, .s [], .b false, .s [], .b false, .s [], .b false, .b false, .s [], .b false, .s [], .b false, .s [], .b false, .s [], .b false, .b false, .b false, .b false, .s [], .b false, .s [], .b false, .s [], .b false, .s [], .b false, .s [], .b false, .s [], .b false, .s [], .b false, .s []] [(0, 36, (.t 160))], none⟩,
  ⟨some 162, .app 211 36 408 (.t 159) (.t 161), none⟩,
  ⟨some 7, .mv (.t 162), none⟩])))
 (.seq (.dreg 0 [⟨⟨some 164, .mv (.t 12), none⟩, 0, [], [], 0⟩,
  ⟨⟨some 165, .eqP true (.t 164) (.c (.p none)), none⟩, 0, [0], [], 0⟩,
  ⟨⟨some 166, .mv (.t 165), none⟩, 0, [0, 1], [], 0⟩,
  ⟨⟨some 167, .mv (.t 0), (some (166, true))⟩, 0, [0, 1, 2], [], 0⟩,
  ⟨⟨some 168, .mv (.t 12), (some (166, true))⟩, 0, [0, 1, 2], [], 0⟩,
  ⟨⟨some 169, .nilChk (.t 168), (some (166, true))⟩, 0, [0, 1, 2, 4], [], 0⟩,
  ⟨⟨some 170, .fad 20 (.t 169), (some (166, true))⟩, 0, [0, 1, 2, 4, 5], [], 0⟩,
  ⟨⟨some 171, .ld true 16 (.t 170), (some (166, true))⟩, 1, [0, 1, 2, 4, 5, 6], [], 0⟩,
  ⟨⟨some 172, .fad 20 (.t 10), (some (166, true))⟩, 0, [0, 1, 2], [], 0⟩,
  ⟨⟨some 173, .ld true 16 (.t 172), (some (166, true))⟩, 1, [0, 1, 2, 8], [], 0⟩,
  ⟨⟨some 174, .ld true 9 (.t 11), (some (166, true))⟩, 1, [0, 1, 2], [], 0⟩,
  ⟨⟨some 175, .mkF (.method "Same") [(.t 167)] [], (some (166, true))⟩, 0, [0, 1, 2, 3], [], 0⟩,
  ⟨⟨some 176, .nilChk (.t 175), (some (166, true))⟩, 0, [0, 1, 2, 3, 11], [], 0⟩,
  ⟨⟨some 177, .mv (.t 167), (some (166, true))⟩, 0, [0, 1, 2, 3, 11, 12], [], 0⟩,
  ⟨⟨some 178, .callI (.t 177) "Same" [(.t 171), (.t 173), (.t 174)], (some (166, true))⟩, 2, [0, 1, 2, 3, 4, 5, 6, 7, 8, 9, 10, 11, 12, 13], [], 0⟩,
  ⟨⟨some 179, .pick (.t 166) (.t 178) (.c (.b false)), none⟩, 0, [0, 1, 2, 3, 4, 5, 6, 7, 8, 9, 10, 11, 12, 13, 14], [], 0⟩,
  ⟨⟨some 163, .mv (.t 179), none⟩, 0, [0, 1, 2, 3, 4, 5, 6, 7, 8, 9, 10, 11, 12, 13, 14, 15], [], 0⟩])
 (.cond (.t 163) (.reg [⟨some 180, .mv (.t 12), none⟩,
  ⟨some 181, .nilChk (.t 180), none⟩,
  ⟨some 182, .fad 0 (.t 181), none⟩,
  ⟨some 183, .fad 19 (.t 182), none⟩,
  ⟨none, .st 1 (.t 183) (.c (.b false)), none⟩])
 (.seq (.dreg 0 [⟨⟨some 185, .mv (.t 9), none⟩, 0, [], [], 0⟩,
  ⟨⟨some 186, .bin .add (.t 185) (.c (.i .i64 (.ofNat 1))), none⟩, 0, [0], [], 0⟩,
  ⟨⟨some 187, .mv (.t 8), none⟩, 0, [], [], 0⟩,
  ⟨⟨some 188, .lenS (.t 187), none⟩, 0, [2], [], 0⟩,
  ⟨⟨some 189, .bin .lss (.t 186) (.t 188), none⟩, 0, [0, 1, 2, 3], [], 0⟩,
  ⟨⟨some 190, .mv (.t 189), none⟩, 0, [0, 1, 2, 3, 4], [], 0⟩,
  ⟨⟨some 191, .mv (.t 8), (some (190, true))⟩, 0, [0, 1, 2, 3, 4, 5], [], 0⟩,
  ⟨⟨some 192, .mv (.t 9), (some (190, true))⟩, 0, [0, 1, 2, 3, 4, 5], [], 0⟩,
  ⟨⟨some 193, .bin .add (.t 192) (.c (.i .i64 (.ofNat 1))), (some (190, true))⟩, 0, [0, 1, 2, 3, 4, 5, 7], [], 0⟩,
  ⟨⟨some 194, .iadS 36 (.t 191) (.t 193), (some (190, true))⟩, 0, [0, 1, 2, 3, 4, 5, 6, 7, 8], [], 0⟩,
  ⟨⟨some 195, .fad 0 (.t 194), (some (190, true))⟩, 0, [0, 1, 2, 3, 4, 5, 6, 7, 8, 9], [], 0⟩,
  ⟨⟨some 196, .fad 0 (.t 195), (some (190, true))⟩, 0, [0, 1, 2, 3, 4, 5, 6, 7, 8, 9, 10], [], 0⟩,
  ⟨⟨some 197, .ld true 9 (.t 196), (some (190, true))⟩, 1, [0, 1, 2, 3, 4, 5, 6, 7, 8, 9, 10, 11], [], 0⟩,
  ⟨⟨some 198, .ld true 9 (.t 11), (some (190, true))⟩, 1, [0, 1, 2, 3, 4, 5], [], 0⟩,
  ⟨⟨some 199, .eqC false [.b, .s, .b, .s, .b, .s, .b, .s, .b] (.t 197) (.t 198), (some (190, true))⟩, 0, [0, 1, 2, 3, 4, 5, 6, 7, 8, 9, 10, 11, 12, 13], [], 0⟩,
  ⟨⟨some 200, .pick (.t 190) (.t 199) (.c (.b false)), none⟩, 0, [0, 1, 2, 3, 4, 5, 6, 7, 8, 9, 10, 11, 12, 13, 14], [], 0⟩,
  ⟨⟨some 201, .mv (.t 200), none⟩, 0, [0, 1, 2, 3, 4, 5, 6, 7, 8, 9, 10, 11, 12, 13, 14, 15], [], 0⟩,
  ⟨⟨some 202, .mv (.t 0), (some (201, true))⟩, 0, [0, 1, 2, 3, 4, 5, 6, 7, 8, 9, 10, 11, 12, 13, 14, 15, 16], [], 0⟩,
  ⟨⟨some 203, .mv (.t 8), (some (201, true))⟩, 0, [0, 1, 2, 3, 4, 5, 6, 7, 8, 9, 10, 11, 12, 13, 14, 15, 16], [], 0⟩,
  ⟨⟨some 204, .mv (.t 9), (some (201, true))⟩, 0, [0, 1, 2, 3, 4, 5, 6, 7, 8, 9, 10, 11, 12, 13, 14, 15, 16], [], 0⟩,
  ⟨⟨some 205, .bin .add (.t 204) (.c (.i .i64 (.ofNat 1))), (some (201, true))⟩, 0, [0, 1, 2, 3, 4, 5, 6, 7, 8, 9, 10, 11, 12, 13, 14, 15, 16, 19], [], 0⟩,
  ⟨⟨some 206, .iadS 36 (.t 203) (.t 205), (some (201, true))⟩, 0, [0, 1, 2, 3, 4, 5, 6, 7, 8, 9, 10, 11, 12, 13, 14, 15, 16, 18, 19, 20], [], 0⟩,
  ⟨⟨some 207, .fad 20 (.t 206), (some (201, true))⟩, 0, [0, 1, 2, 3, 4, 5, 6, 7, 8, 9, 10, 11, 12, 13, 14, 15, 16, 18, 19, 20, 21], [], 0⟩,
  ⟨⟨some 208, .ld true 16 (.t 207), (some (201, true))⟩, 1, [0, 1, 2, 3, 4, 5, 6, 7, 8, 9, 10, 11, 12, 13, 14, 15, 16, 18, 19, 20, 21, 22], [], 0⟩,
  ⟨⟨some 209, .fad 20 (.t 10), (some (201, true))⟩, 0, [0, 1, 2, 3, 4, 5, 6, 7, 8, 9, 10, 11, 12, 13, 14, 15, 16], [], 0⟩,
  ⟨⟨some 210, .ld true 16 (.t 209), (some (201, true))⟩, 1, [0, 1, 2, 3, 4, 5, 6, 7, 8, 9, 10, 11, 12, 13, 14, 15, 16, 24], [], 0⟩,
  ⟨⟨some 211, .ld true 9 (.t 11), (some (201, true))⟩, 1, [0, 1, 2, 3, 4, 5, 6, 7, 8, 9, 10, 11, 12, 13, 14, 15, 16], [], 0⟩,
  ⟨⟨some 212, .mkF (.method "Same") [(.t 202)] [], (some (201, true))⟩, 0, [0, 1, 2, 3, 4, 5, 6, 7, 8, 9, 10, 11, 12, 13, 14, 15, 16, 17], [], 0⟩,
  ⟨⟨some 213, .nilChk (.t 212), (some (201, true))⟩, 0, [0, 1, 2, 3, 4, 5, 6, 7, 8, 9, 10, 11, 12, 13, 14, 15, 16, 17, 27], [], 0⟩,
  ⟨⟨some 214, .mv (.t 202), (some (201, true))⟩, 0, [0, 1, 2, 3, 4, 5, 6, 7, 8, 9, 10, 11, 12, 13, 14, 15, 16, 17, 27, 28], [], 0⟩,
  ⟨⟨some 215, .callI (.t 214) "Same" [(.t 208), (.t 210), (.t 211)], (some (201, true))⟩, 2, [0, 1, 2, 3, 4, 5, 6, 7, 8, 9, 10, 11, 12, 13, 14, 15, 16, 17, 18, 19, 20, 21, 22, 23, 24, 25, 26, 27, 28, 29], [], 0⟩,
  ⟨⟨some 216, .pick (.t 201) (.t 215) (.c (.b false)), none⟩, 0, [0, 1, 2, 3, 4, 5, 6, 7, 8, 9, 10, 11, 12, 13, 14, 15, 16, 17, 18, 19, 20, 21, 22, 23, 24, 25, 26, 27, 28, 29, 30], [], 0⟩,
  ⟨⟨some 184, .mv (.t 216), none⟩, 0, [0, 1, 2, 3, 4, 5, 6, 7, 8, 9, 10, 11, 12, 13, 14, 15, 16, 17, 18, 19, 20, 21, 22, 23, 24, 25, 26, 27, 28, 29, 30, 31], [], 0⟩])
 (.cond (.t 184) (.skip)
 (.seq (.reg [⟨some 80, .mv (.t 0), none⟩,
  ⟨some 81, .fad 20 (.t 10), none⟩,
  ⟨some 82, .ld true 16 (.t 81), none⟩,
  ⟨some 83, .ld true 9 (.t 11), none⟩,
  ⟨some 84, .callI (.t 80) "Reduce" [(.t 82), (.t 83)], none⟩,
  ⟨some 85, .fad 20 (.t 10), none⟩,
  ⟨none, .st 16 (.t 85) (.t 84), none⟩])
 (.reg [⟨some 86, .mv (.t 7), none⟩,
  ⟨some 87, .ld true 36 (.t 10), none⟩,
  ⟨some 88, .buildS 211 36 1 [.b false, .s [], .b false, .s [], .b false, .s [], .b false, .s [], .b false, .b false, .s [], .b false, .s [], .b false, .s [], .b false, .s [], .b false, .b false, .b false, .b false, .s [], .b false, .s [], .b false, .s [], .b false, .s [], .b false, .s [], .b false, .s [], .b false, .s [], .b false, .s []] [(0, 36, (.t 87))], none⟩,
  ⟨some 89, .app 211 36 408 (.t 86) (.t 88), none⟩,
  ⟨some 7, .mv (.t 89), none⟩]))))))))))))))
 (.reg [⟨some 217, .bin .add (.t 43) (.c (.i .i64 (.ofNat 1))), none⟩,
  ⟨some 43, .mv (.t 217), none⟩])))))))
 (.seq (.reg [⟨some 218, .mv (.t 7), none⟩,
  ⟨some 4, .mv (.t 218), none⟩,
  ⟨some 5, .mv (.c (.i .i64 (.ofNat 0))), none⟩])
 (.ret))))))), [.t 4, .t 5]⟩
def d131 : FDef := ⟨11, .seq (.reg [⟨some 3, .box 210 1 (.t 0), none⟩,
  ⟨some 6, .mv (.c (.b false)), none⟩])
 (.seq (.reg [⟨some 7, .mv (.t 1), none⟩,
  ⟨some 8, .mv (.t 2), none⟩,
  ⟨some 9, .mkF (.func 179) [] [(.t 3)], none⟩,
  ⟨some 10, .call 178 [(.t 7), (.t 8), (.t 9)], none⟩,
  ⟨some 6, .mv (.t 10), none⟩])
 (.ret)), [.t 6]⟩
def d132 : FDef := ⟨22, .seq (.reg [⟨some 4, .mv (.c (.sl none 0 0 true)), none⟩])
 (.seq (.reg [⟨some 5, .mv (.c (.sl none 0 0 true)), none⟩])
 (.seq (.seq (.reg [⟨some 8, .mv (.t 0), none⟩,
  ⟨some 9, .lenS (.t 8), none⟩,
  ⟨some 10, .mv (.c (.i .i64 (.ofNat 0))), none⟩])
 (.block 0 (.loop (.seq (.reg [⟨some 11, .bin .lss (.t 10) (.t 9), none⟩])
 (.seq (.cond (.t 11) (.skip)
 (.exit 0))
 (.seq (.block 1 (.seq (.reg [⟨some 12, .iadS 36 (.t 8) (.t 10), none⟩,
  ⟨some 13, .ld true 36 (.t 12), none⟩,
  ⟨some 7, .new 84 36 [.b false, .s [], .b false, .s [], .b false, .s [], .b false, .s [], .b false, .b false, .s [], .b false, .s [], .b false, .s [], .b false, .s [], .b false, .b false, .b false, .b false, .s [], .b false, .s [], .b false, .s [], .b false, .s [], .b false, .s [], .b false, .s [], .b false, .s [], .b false, .s []], none⟩,
  ⟨none, .st 36 (.t 7) (.t 13), none⟩])
 (.reg [⟨some 14, .mv (.t 5), none⟩,
  ⟨some 15, .mv (.t 1), none⟩,
  ⟨some 16, .ld true 36 (.t 7), none⟩,
  ⟨some 17, .callV (.t 15) [(.t 16)], none⟩,
  ⟨some 18, .buildS 211 36 1 [.b false, .s [], .b false, .s [], .b false, .s [], .b false, .s [], .b false, .b false, .s [], .b false, .s [], .b false, .s [], .b false, .s [], .b false, .b false, .b false, .b false, .s [], .b false, .s [], .b false, .s [], .b false, .s [], .b false, .s [], .b false, .s [], .b false, .s [], .b false, .s []] [(0, 36, (.t 17))], none⟩,
  ⟨some 19, .app 211 36 408 (.t 14) (.t 18), none⟩,
  ⟨some 5, .mv (.t 19), none⟩])))
 (.reg [⟨some 20, .bin .add (.t 10) (.c (.i .i64 (.ofNat 1))), none⟩,
  ⟨some 10, .mv (.t 20), none⟩])))))))
 (.seq (.reg [⟨some 21, .mv (.t 5), none⟩,
  ⟨some 4, .mv (.t 21), none⟩])
 (.ret)))), [.t 4]⟩
def d133 : FDef := ⟨8, .seq (.reg [⟨some 1, .box 84 36 (.t 0), none⟩,
  ⟨some 2, .new 211 36 [.b false, .s [], .b false, .s [], .b false, .s [], .b false, .s [], .b false, .b false, .s [], .b false, .s [], .b false, .s [], .b false, .s [], .b false, .b false, .b false, .b false, .s [], .b false, .s [], .b false, .s [], .b false, .s [], .b false, .s [], .b false, .s [], .b false, .s [], .b false, .s []], none⟩])
 (.seq (.reg [⟨some 3, .fad 0 (.t 1), none⟩,
  ⟨some 4, .ld true 20 (.t 3), none⟩,
  ⟨some 5, .fad 20 (.t 1), none⟩,
  ⟨some 6, .ld true 16 (.t 5), none⟩,
  ⟨some 7, .build [.b false, .s [], .b false, .s [], .b false, .s [], .b false, .s [], .b false, .b false, .s [], .b false, .s [], .b false, .s [], .b false, .s [], .b false, .b false, .b false, .b false, .s [], .b false, .s [], .b false, .s [], .b false, .s [], .b false, .s [], .b false, .s [], .b false, .s [], .b false, .s []] [(0, 20, (.t 4)), (20, 16, (.t 6))], none⟩,
  ⟨none, .st 36 (.t 2) (.t 7), none⟩])
 (.ret)), [.cell true 36 2]⟩
def d134 : FDef := ⟨36, .seq (.reg [⟨some 2, .box 222 12 (.t 0), none⟩,
  ⟨some 3, .box 78 9 (.t 1), none⟩,
  ⟨some 4, .new 78 9 [.b false, .s [], .b false, .s [], .b false, .s [], .b false, .s [], .b false], none⟩])
 (.seq (.dreg 1 [⟨⟨some 9, .ld true 12 (.t 2), none⟩, 1, [], [0], 0⟩,
  ⟨⟨some 10, .fad 0 (.t 3), none⟩, 0, [], [0], 0⟩,
  ⟨⟨some 11, .ld true 4 (.t 10), none⟩, 1, [1], [0], 0⟩,
  ⟨⟨some 12, .call 180 [(.t 9), (.t 11)], none⟩, 2, [0, 1, 2], [0], 0⟩,
  ⟨⟨some 13, .fad 8 (.t 2), none⟩, 0, [], [0], 0⟩,
  ⟨⟨some 14, .ld true 4 (.t 13), none⟩, 1, [4], [0], 0⟩,
  ⟨⟨some 15, .fad 4 (.t 3), none⟩, 0, [], [0], 0⟩,
  ⟨⟨some 16, .ld true 4 (.t 15), none⟩, 1, [6], [0], 0⟩,
  ⟨⟨some 17, .call 44 [(.t 14), (.t 16)], none⟩, 2, [0, 1, 2, 3, 4, 5, 6, 7], [0], 0⟩,
  ⟨⟨some 18, .call 42 [(.t 12), (.t 17)], none⟩, 2, [0, 1, 2, 3, 4, 5, 6, 7, 8], [0], 0⟩,
  ⟨⟨some 5, .new 76 4 [.b false, .s [], .b false, .s []], none⟩, 3, [], [0], 0⟩,
  ⟨⟨none, .st 4 (.t 5) (.t 18), none⟩, 2, [0, 1, 2, 3, 4, 5, 6, 7, 8, 9, 10], [], 0⟩])
 (.seq (.reg [⟨some 19, .ld true 12 (.t 2), none⟩,
  ⟨some 20, .fad 0 (.t 3), none⟩,
  ⟨some 21, .ld true 4 (.t 20), none⟩,
  ⟨some 22, .call 181 [(.t 19), (.t 21)], none⟩,
  ⟨some 6, .new 76 4 [.b false, .s [], .b false, .s []], none⟩,
  ⟨none, .st 4 (.t 6) (.t 22), none⟩])
 (.seq (.seq (.reg [⟨some 23, .fad 8 (.t 3), none⟩,
  ⟨some 24, .ld false 1 (.t 23), none⟩])
 (.cond (.t 24) (.reg [⟨some 25, .ld true 4 (.t 6), none⟩,
  ⟨some 26, .call 139 [(.t 25)], none⟩,
  ⟨none, .st 4 (.t 6) (.t 26), none⟩])
 (.skip)))
 (.seq (.reg [⟨some 28, .ld true 4 (.t 5), none⟩,
  ⟨some 29, .ld true 4 (.t 6), none⟩,
  ⟨some 30, .fad 4 (.t 3), none⟩,
  ⟨some 31, .ld true 4 (.t 30), none⟩,
  ⟨some 32, .call 182 [(.t 28), (.t 29), (.t 31)], none⟩,
  ⟨some 27, .mv (.t 32), none⟩,
  ⟨some 33, .ext 0 (.t 27), none⟩,
  ⟨some 34, .ext 1 (.t 27), none⟩,
  ⟨some 7, .new 78 9 [.b false, .s [], .b false, .s [], .b false, .s [], .b false, .s [], .b false], none⟩,
  ⟨none, .st 9 (.t 7) (.t 33), none⟩,
  ⟨some 8, .mv (.t 34), none⟩])
 (.seq (.reg [⟨some 35, .ld true 9 (.t 7), none⟩,
  ⟨none, .st 9 (.t 4) (.t 35), none⟩])
 (.ret)))))), [.cell true 9 4]⟩
def d135 : FDef := ⟨8, .seq (.reg [⟨some 1, .box 82 16 (.t 0), none⟩,
  ⟨some 2, .new 222 12 [.b false, .s [], .b false, .s [], .b false, .s [], .b false, .s [], .b false, .s [], .b false, .s []], none⟩])
 (.seq (.reg [⟨some 3, .fad 0 (.t 1), none⟩,
  ⟨some 4, .ld true 4 (.t 3), none⟩,
  ⟨some 5, .fad 4 (.t 1), none⟩,
  ⟨some 6, .ld true 4 (.t 5), none⟩,
  ⟨some 7, .call 183 [(.t 4), (.t 6)], none⟩,
  ⟨none, .st 12 (.t 2) (.t 7), none⟩])
 (.ret)), [.cell true 12 2]⟩
def d136 : FDef := ⟨8, .seq (.reg [⟨some 1, .box 82 16 (.t 0), none⟩,
  ⟨some 2, .new 222 12 [.b false, .s [], .b false, .s [], .b false, .s [], .b false, .s [], .b false, .s [], .b false, .s []], none⟩])
 (.seq (.reg [⟨some 3, .fad 8 (.t 1), none⟩,
  ⟨some 4, .ld true 4 (.t 3), none⟩,
  ⟨some 5, .fad 12 (.t 1), none⟩,
  ⟨some 6, .ld true 4 (.t 5), none⟩,
  ⟨some 7, .call 183 [(.t 4), (.t 6)], none⟩,
  ⟨none, .st 12 (.t 2) (.t 7), none⟩])
 (.ret)), [.cell true 12 2]⟩
def d137 : FDef := ⟨9, .seq (.reg [⟨some 2, .box 76 4 (.t 0), none⟩,
  ⟨some 3, .box 76 4 (.t 1), none⟩,
  ⟨some 4, .new 76 4 [.b false, .s [], .b false, .s []], none⟩])
 (.seq (.dreg 0 [⟨⟨some 5, .ld true 4 (.t 2), none⟩, 1, [], [], 0⟩,
  ⟨⟨some 6, .ld true 4 (.t 3), none⟩, 1, [], [], 0⟩,
  ⟨⟨some 7, .call 139 [(.t 6)], none⟩, 2, [1], [], 0⟩,
  ⟨⟨some 8, .call 42 [(.t 5), (.t 7)], none⟩, 2, [0, 1, 2], [], 0⟩,
  ⟨⟨none, .st 4 (.t 4) (.t 8), none⟩, 2, [0, 1, 2, 3], [], 0⟩])
 (.ret)), [.cell true 4 4]⟩
def d138 : FDef := ⟨7, .seq (.reg [⟨some 1, .box 78 9 (.t 0), none⟩,
  ⟨some 2, .new 76 4 [.b false, .s [], .b false, .s []], none⟩])
 (.seq (.seq (.reg [⟨some 3, .fad 8 (.t 1), none⟩,
  ⟨some 4, .ld false 1 (.t 3), none⟩])
 (.cond (.t 4) (.seq (.reg [⟨some 5, .call 43 [(.c (.i .i64 (.negSucc 0)))], none⟩,
  ⟨none, .st 4 (.t 2) (.t 5), none⟩])
 (.ret))
 (.skip)))
 (.seq (.reg [⟨some 6, .call 43 [(.c (.i .i64 (.ofNat 1)))], none⟩,
  ⟨none, .st 4 (.t 2) (.t 6), none⟩])
 (.ret))), [.cell true 4 2]⟩
def d139 : FDef := ⟨9, .seq (.reg [⟨some 1, .box 76 4 (.t 0), none⟩,
  ⟨some 2, .new 76 4 [.b false, .s [], .b false, .s []], none⟩])
 (.seq (.dreg 0 [⟨⟨some 3, .fad 0 (.t 1), none⟩, 0, [], [], 0⟩,
  ⟨⟨some 4, .ld true 2 (.t 3), none⟩, 1, [0], [], 0⟩,
  ⟨⟨some 5, .call 111 [(.t 4)], none⟩, 2, [0, 1], [], 0⟩,
  ⟨⟨some 6, .fad 2 (.t 1), none⟩, 0, [], [], 0⟩,
  ⟨⟨some 7, .ld true 2 (.t 6), none⟩, 1, [3], [], 0⟩,
  ⟨⟨some 8, .build [.b false, .s [], .b false, .s []] [(0, 2, (.t 5)), (2, 2, (.t 7))], none⟩, 0, [0, 1, 2, 3, 4], [], 0⟩,
  ⟨⟨none, .st 4 (.t 2) (.t 8), none⟩, 2, [0, 1, 2, 3, 4, 5], [], 0⟩])
 (.ret)), [.cell true 4 2]⟩
def d140 : FDef := ⟨40, .seq (.reg [⟨some 3, .box 76 4 (.t 0), none⟩,
  ⟨some 4, .box 76 4 (.t 1), none⟩,
  ⟨some 5, .box 76 4 (.t 2), none⟩,
  ⟨some 6, .mv (.c (.i .i64 (.ofNat 0))), none⟩])
 (.seq (.dreg 0 [⟨⟨some 9, .ld true 4 (.t 3), none⟩, 1, [], [], 0⟩,
  ⟨⟨some 10, .call 141 [(.t 9)], none⟩, 2, [0], [], 0⟩,
  ⟨⟨some 11, .ld true 4 (.t 4), none⟩, 1, [], [], 0⟩,
  ⟨⟨some 12, .call 141 [(.t 11)], none⟩, 2, [0, 1, 2], [], 0⟩,
  ⟨⟨some 13, .ld true 4 (.t 5), none⟩, 1, [], [], 0⟩,
  ⟨⟨some 14, .call 141 [(.t 13)], none⟩, 2, [0, 1, 2, 3, 4], [], 0⟩,
  ⟨⟨some 15, .bin .mul (.t 12) (.t 14), none⟩, 0, [0, 1, 2, 3, 4, 5], [], 0⟩,
  ⟨⟨some 7, .mv (.t 10), none⟩, 0, [0, 1, 2, 3, 4, 5], [], 0⟩,
  ⟨⟨some 8, .mv (.t 15), none⟩, 0, [0, 1, 2, 3, 4, 5, 6, 7], [], 0⟩])
 (.seq (.block 0 (.seq (.reg [⟨some 17, .mv (.t 8), none⟩,
  ⟨some 18, .bin .eql (.t 17) (.c (.i .i64 (.ofNat 0))), none⟩,
  ⟨some 19, .mv (.t 18), none⟩,
  ⟨some 20, .mv (.t 7), (some (19, false))⟩,
  ⟨some 21, .mv (.t 8), (some (19, false))⟩,
  ⟨some 22, .bin .eql (.t 20) (.t 21), (some (19, false))⟩,
  ⟨some 23, .pick (.t 19) (.c (.b true)) (.t 22), none⟩,
  ⟨some 16, .mv (.t 23), none⟩])
 (.cond (.t 16) (.seq (.reg [⟨some 24, .mv (.t 7), none⟩,
  ⟨some 6, .mv (.t 24), none⟩])
 (.ret))
 (.seq (.reg [⟨some 26, .mv (.t 7), none⟩,
  ⟨some 27, .bin .eql (.t 26) (.c (.i .i64 (.ofNat 0))), none⟩,
  ⟨some 25, .mv (.t 27), none⟩])
 (.cond (.t 25) (.seq (.reg [⟨some 28, .mv (.t 8), none⟩,
  ⟨some 6, .mv (.t 28), none⟩])
 (.ret))
 (.skip))))))
 (.seq (.dreg 0 [⟨⟨some 29, .mv (.t 7), none⟩, 0, [], [], 0⟩,
  ⟨⟨some 30, .ld true 4 (.t 3), none⟩, 1, [], [], 0⟩,
  ⟨⟨some 31, .ld true 4 (.t 3), none⟩, 1, [], [], 0⟩,
  ⟨⟨some 32, .call 44 [(.t 30), (.t 31)], none⟩, 2, [1, 2], [], 0⟩,
  ⟨⟨some 33, .ld true 4 (.t 4), none⟩, 1, [], [], 0⟩,
  ⟨⟨some 34, .ld true 4 (.t 4), none⟩, 1, [], [], 0⟩,
  ⟨⟨some 35, .call 44 [(.t 33), (.t 34)], none⟩, 2, [1, 2, 3, 4, 5], [], 0⟩,
  ⟨⟨some 36, .ld true 4 (.t 5), none⟩, 1, [], [], 0⟩,
  ⟨⟨some 37, .call 44 [(.t 35), (.t 36)], none⟩, 2, [1, 2, 3, 4, 5, 6, 7], [], 0⟩,
  ⟨⟨some 38, .call 184 [(.t 32), (.t 37)], none⟩, 2, [1, 2, 3, 4, 5, 6, 7, 8], [], 0⟩,
  ⟨⟨some 39, .bin .mul (.t 29) (.t 38), none⟩, 0, [0, 1, 2, 3, 4, 5, 6, 7, 8, 9], [], 0⟩,
  ⟨⟨some 6, .mv (.t 39), none⟩, 0, [0, 1, 2, 3, 4, 5, 6, 7, 8, 9, 10], [], 0⟩])
 (.ret)))), [.t 6]⟩
def d141 : FDef := ⟨6, .seq (.reg [⟨some 1, .box 76 4 (.t 0), none⟩,
  ⟨some 2, .mv (.c (.i .i64 (.ofNat 0))), none⟩])
 (.seq (.reg [⟨some 3, .fad 0 (.t 1), none⟩,
  ⟨some 4, .ld true 2 (.t 3), none⟩,
  ⟨some 5, .call 110 [(.t 4)], none⟩,
  ⟨some 2, .mv (.t 5), none⟩])
 (.ret)), [.t 2]⟩
def d142 : FDef := ⟨23, .seq (.reg [⟨some 2, .mv (.c (.i .u64 (.ofNat 0))), none⟩,
  ⟨some 3, .mv (.c (.b false)), none⟩])
 (.seq (.seq (.reg [⟨some 6, .mv (.t 0), none⟩,
  ⟨some 7, .lenT (.t 6), none⟩,
  ⟨some 8, .bin .gtr (.t 7) (.c (.i .i64 (.ofNat 8))), none⟩])
 (.cond (.t 8) (.seq (.reg [⟨some 2, .mv (.c (.i .u64 (.ofNat 0))), none⟩,
  ⟨some 3, .mv (.c (.b false)), none⟩])
 (.ret))
 (.skip)))
 (.seq (.reg [⟨some 4, .mv (.c (.i .u64 (.ofNat 0))), none⟩])
 (.seq (.seq (.reg [⟨some 9, .mv (.t 0), none⟩,
  ⟨some 10, .lenT (.t 9), none⟩,
  ⟨some 11, .mv (.c (.i .i64 (.ofNat 0))), none⟩])
 (.block 0 (.loop (.seq (.reg [⟨some 12, .bin .lss (.t 11) (.t 10), none⟩])
 (.seq (.cond (.t 12) (.skip)
 (.exit 0))
 (.seq (.block 1 (.seq (.reg [⟨some 13, .mv (.t 11), none⟩,
  ⟨some 5, .mv (.t 13), none⟩])
 (.reg [⟨some 14, .mv (.t 4), none⟩,
  ⟨some 15, .bin .shl (.t 14) (.c (.i .u64 (.ofNat 8))), none⟩,
  ⟨some 16, .mv (.t 0), none⟩,
  ⟨some 17, .mv (.t 5), none⟩,
  ⟨some 18, .idxT (.t 16) (.t 17), none⟩,
  ⟨some 19, .conv .u64 (.t 18), none⟩,
  ⟨some 20, .bin .or (.t 15) (.t 19), none⟩,
  ⟨some 4, .mv (.t 20), none⟩])))
 (.reg [⟨some 21, .bin .add (.t 11) (.c (.i .i64 (.ofNat 1))), none⟩,
  ⟨some 11, .mv (.t 21), none⟩])))))))
 (.seq (.reg [⟨some 22, .mv (.t 4), none⟩,
  ⟨some 2, .mv (.t 22), none⟩,
  ⟨some 3, .mv (.c (.b true)), none⟩])
 (.ret))))), [.t 2, .t 3]⟩
def d143 : FDef := ⟨5, .seq (.reg [⟨some 1, .box 76 4 (.t 0), none⟩,
  ⟨some 2, .new 74 2 [.b false, .s []], none⟩])
 (.seq (.reg [⟨some 3, .fad 0 (.t 1), none⟩,
  ⟨some 4, .ld true 2 (.t 3), none⟩,
  ⟨none, .st 2 (.t 2) (.t 4), none⟩])
 (.ret)), [.cell true 2 2]⟩
def d144 : FDef := ⟨11, .seq (.reg [⟨some 1, .box 74 2 (.t 0), none⟩,
  ⟨some 2, .new 74 2 [.b false, .s []], none⟩,
  ⟨some 3, .mv (.c (.i .i64 (.ofNat 0))), none⟩])
 (.seq (.seq (.reg [⟨some 4, .fad 0 (.t 1), none⟩,
  ⟨some 5, .ld false 1 (.t 4), none⟩])
 (.cond (.t 5) (.seq (.reg [⟨some 6, .build [.b false, .s []] [], none⟩,
  ⟨none, .st 2 (.t 2) (.t 6), none⟩,
  ⟨some 3, .mv (.c (.i .i64 (.ofNat 2))), none⟩])
 (.ret))
 (.skip)))
 (.seq (.reg [⟨some 7, .fad 1 (.t 1), none⟩,
  ⟨some 8, .ld false 1 (.t 7), none⟩,
  ⟨some 9, .call 185 [(.t 8)], none⟩,
  ⟨some 10, .call 115 [(.c (.b false)), (.t 9)], none⟩,
  ⟨none, .st 2 (.t 2) (.t 10), none⟩,
  ⟨some 3, .mv (.c (.i .i64 (.ofNat 0))), none⟩])
 (.ret))), [.cell true 2 2, .t 3]⟩
def d145 : FDef := ⟨9, .seq (.reg [⟨some 2, .box 74 2 (.t 0), none⟩,
  ⟨some 3, .box 74 2 (.t 1), none⟩,
  ⟨some 4, .new 74 2 [.b false, .s []], none⟩])
 (.seq (.dreg 0 [⟨⟨some 5, .ld true 2 (.t 2), none⟩, 1, [], [], 0⟩,
  ⟨⟨some 6, .ld true 2 (.t 3), none⟩, 1, [], [], 0⟩,
  ⟨⟨some 7, .call 111 [(.t 6)], none⟩, 2, [1], [], 0⟩,
  ⟨⟨some 8, .call 84 [(.t 5), (.t 7)], none⟩, 2, [0, 1, 2], [], 0⟩,
  ⟨⟨none, .st 2 (.t 4) (.t 8), none⟩, 2, [0, 1, 2, 3], [], 0⟩])
 (.ret)), [.cell true 2 4]⟩
def d146 : FDef := ⟨43, .seq (.reg [⟨some 2, .box 74 2 (.t 0), none⟩,
  ⟨some 3, .box 74 2 (.t 1), none⟩,
  ⟨some 4, .new 74 2 [.b false, .s []], none⟩,
  ⟨some 5, .new 74 2 [.b false, .s []], none⟩,
  ⟨some 6, .mv (.c (.i .i64 (.ofNat 0))), none⟩])
 (.seq (.seq (.reg [⟨some 9, .fad 1 (.t 3), none⟩,
  ⟨some 10, .ld false 1 (.t 9), none⟩,
  ⟨some 11, .bin .eql (.t 10) (.c (.s [])), none⟩])
 (.cond (.t 11) (.seq (.reg [⟨some 12, .build [.b false, .s []] [], none⟩,
  ⟨some 13, .build [.b false, .s []] [], none⟩,
  ⟨none, .st 2 (.t 4) (.t 12), none⟩,
  ⟨none, .st 2 (.t 5) (.t 13), none⟩,
  ⟨some 6, .mv (.c (.i .i64 (.ofNat 6))), none⟩])
 (.ret))
 (.skip)))
 (.seq (.reg [⟨some 15, .fad 1 (.t 2), none⟩,
  ⟨some 16, .ld false 1 (.t 15), none⟩,
  ⟨some 17, .fad 1 (.t 3), none⟩,
  ⟨some 18, .ld false 1 (.t 17), none⟩,
  ⟨some 19, .call 155 [(.t 16), (.t 18)], none⟩,
  ⟨some 14, .mv (.t 19), none⟩,
  ⟨some 20, .ext 0 (.t 14), none⟩,
  ⟨some 21, .ext 1 (.t 14), none⟩,
  ⟨some 7, .mv (.t 20), none⟩,
  ⟨some 8, .mv (.t 21), none⟩])
 (.seq (.seq (.reg [⟨some 22, .fad 0 (.t 2), none⟩,
  ⟨some 23, .ld false 1 (.t 22), none⟩,
  ⟨some 24, .mv (.t 23), none⟩,
  ⟨some 25, .mv (.t 8), (some (24, true))⟩,
  ⟨some 26, .bin .neq (.t 25) (.c (.s [])), (some (24, true))⟩,
  ⟨some 27, .pick (.t 24) (.t 26) (.c (.b false)), none⟩])
 (.cond (.t 27) (.dreg 0 [⟨⟨some 28, .mv (.t 7), none⟩, 0, [], [], 0⟩,
  ⟨⟨some 29, .call 116 [(.t 28), (.c (.s [1]))], none⟩, 2, [0], [], 0⟩,
  ⟨⟨some 30, .fad 1 (.t 3), none⟩, 0, [], [], 0⟩,
  ⟨⟨some 31, .ld false 1 (.t 30), none⟩, 1, [2], [], 0⟩,
  ⟨⟨some 32, .mv (.t 8), none⟩, 0, [], [], 0⟩,
  ⟨⟨some 33, .call 118 [(.t 31), (.t 32)], none⟩, 2, [0, 1, 2, 3, 4], [], 0⟩,
  ⟨⟨some 7, .mv (.t 29), none⟩, 0, [0, 1, 2, 3, 4, 5], [], 0⟩,
  ⟨⟨some 8, .mv (.t 33), none⟩, 0, [0, 1, 2, 3, 4, 5, 6], [], 0⟩])
 (.skip)))
 (.seq (.reg [⟨some 34, .fad 0 (.t 2), none⟩,
  ⟨some 35, .ld false 1 (.t 34), none⟩,
  ⟨some 36, .fad 0 (.t 3), none⟩,
  ⟨some 37, .ld false 1 (.t 36), none⟩,
  ⟨some 38, .eqB true (.t 35) (.t 37), none⟩,
  ⟨some 39, .mv (.t 7), none⟩,
  ⟨some 40, .call 115 [(.t 38), (.t 39)], none⟩,
  ⟨some 41, .mv (.t 8), none⟩,
  ⟨some 42, .call 115 [(.c (.b false)), (.t 41)], none⟩,
  ⟨none, .st 2 (.t 4) (.t 40), none⟩,
  ⟨none, .st 2 (.t 5) (.t 42), none⟩,
  ⟨some 6, .mv (.c (.i .i64 (.ofNat 0))), none⟩])
 (.ret))))), [.cell true 2 4, .cell true 2 5, .t 6]⟩
def d147 : FDef := ⟨18, .seq (.reg [⟨some 1, .box 78 9 (.t 0), none⟩,
  ⟨some 2, .new 78 9 [.b false, .s [], .b false, .s [], .b false, .s [], .b false, .s [], .b false], none⟩])
 (.seq (.dreg 0 [⟨⟨some 3, .fad 0 (.t 1), none⟩, 0, [], [], 0⟩,
  ⟨⟨some 4, .ld true 4 (.t 3), none⟩, 1, [0], [], 0⟩,
  ⟨⟨some 5, .call 139 [(.t 4)], none⟩, 2, [0, 1], [], 0⟩,
  ⟨⟨some 6, .fad 4 (.t 1), none⟩, 0, [], [], 0⟩,
  ⟨⟨some 7, .ld true 4 (.t 6), none⟩, 1, [3], [], 0⟩,
  ⟨⟨some 8, .fad 4 (.t 1), none⟩, 0, [], [], 0⟩,
  ⟨⟨some 9, .ld true 4 (.t 8), none⟩, 1, [5], [], 0⟩,
  ⟨⟨some 10, .build [.b false, .s [], .b false, .s []] [], none⟩, 0, [], [], 0⟩,
  ⟨⟨some 11, .eqC true [.b, .s, .b, .s] (.t 9) (.t 10), none⟩, 0, [5, 6, 7], [], 0⟩,
  ⟨⟨some 12, .mv (.t 11), none⟩, 0, [0, 1, 2, 5, 6, 7, 8], [], 0⟩,
  ⟨⟨some 13, .fad 8 (.t 1), (some (12, true))⟩, 0, [0, 1, 2, 5, 6, 7, 8, 9], [], 0⟩,
  ⟨⟨some 14, .ld false 1 (.t 13), (some (12, true))⟩, 1, [0, 1, 2, 5, 6, 7, 8, 9, 10], [], 0⟩,
  ⟨⟨some 15, .un .not (.t 14), (some (12, true))⟩, 0, [0, 1, 2, 5, 6, 7, 8, 9, 10, 11], [], 0⟩,
  ⟨⟨some 16, .pick (.t 12) (.t 15) (.c (.b false)), none⟩, 0, [0, 1, 2, 5, 6, 7, 8, 9, 10, 11, 12], [], 0⟩,
  ⟨⟨some 17, .build [.b false, .s [], .b false, .s [], .b false, .s [], .b false, .s [], .b false] [(0, 4, (.t 5)), (4, 4, (.t 7)), (8, 1, (.t 16))], none⟩, 0, [0, 1, 2, 3, 4, 5, 6, 7, 8, 9, 10, 11, 12, 13], [], 0⟩,
  ⟨⟨none, .st 9 (.t 2) (.t 17), none⟩, 2, [0, 1, 2, 3, 4, 5, 6, 7, 8, 9, 10, 11, 12, 13, 14], [], 0⟩])
 (.ret)), [.cell true 9 2]⟩
def d148 : FDef := ⟨18, .seq (.reg [⟨some 4, .mv (.c (.b false)), none⟩])
 (.seq (.reg [⟨some 5, .mv (.t 0), none⟩,
  ⟨some 6, .lenT (.t 5), none⟩,
  ⟨some 7, .mv (.t 1), none⟩,
  ⟨some 8, .lenT (.t 7), none⟩,
  ⟨some 9, .bin .geq (.t 6) (.t 8), none⟩,
  ⟨some 10, .mv (.t 9), none⟩,
  ⟨some 11, .mv (.t 0), (some (10, true))⟩,
  ⟨some 12, .mv (.t 1), (some (10, true))⟩,
  ⟨some 13, .lenT (.t 12), (some (10, true))⟩,
  ⟨some 14, .slcT (.t 11) none (some (.t 13)), (some (10, true))⟩,
  ⟨some 15, .mv (.t 1), (some (10, true))⟩,
  ⟨some 16, .bin .eql (.t 14) (.t 15), (some (10, true))⟩,
  ⟨some 17, .pick (.t 10) (.t 16) (.c (.b false)), none⟩,
  ⟨some 4, .mv (.t 17), none⟩])
 (.ret)), [.t 4]⟩
def d149 : FDef := ⟨36, .seq (.reg [⟨some 4, .mv (.c (.i .i64 (.ofNat 0))), none⟩,
  ⟨some 5, .mv (.c (.i .i64 (.ofNat 0))), none⟩,
  ⟨some 6, .mv (.c (.i .i64 (.ofNat 0))), none⟩])
 (.seq (.seq (.reg [⟨some 8, .mv (.t 1), none⟩,
  ⟨some 9, .bin .lss (.t 8) (.c (.i .i64 (.ofNat 0))), none⟩,
  ⟨some 10, .mv (.t 9), none⟩,
  ⟨some 11, .mv (.t 1), (some (10, false))⟩,
  ⟨some 12, .mv (.t 0), (some (10, false))⟩,
  ⟨some 13, .lenT (.t 12), (some (10, false))⟩,
  ⟨some 14, .bin .gtr (.t 11) (.t 13), (some (10, false))⟩,
  ⟨some 15, .pick (.t 10) (.c (.b true)) (.t 14), none⟩])
 (.cond (.t 15) (.seq (.reg [⟨some 4, .mv (.c (.i .i64 (.ofNat 0))), none⟩,
  ⟨some 5, .mv (.c (.i .i64 (.ofNat 0))), none⟩,
  ⟨some 6, .mv (.c (.i .i64 (.ofNat 2))), none⟩])
 (.ret))
 (.skip)))
 (.seq (.reg [⟨some 16, .mv (.t 0), none⟩,
  ⟨some 17, .mv (.t 1), none⟩,
  ⟨some 18, .build [.s [], .i .i64 (.ofNat 0), .i .i64 (.ofNat 0)] [(0, 1, (.t 16)), (1, 1, (.t 17))], none⟩,
  ⟨some 19, .box 239 3 (.t 18), none⟩,
  ⟨some 7, .mv (.t 19), none⟩])
 (.seq (.seq (.reg [⟨some 20, .mv (.t 7), none⟩,
  ⟨some 21, .call 186 [(.t 20)], none⟩,
  ⟨some 4, .mv (.t 21), none⟩])
 (.seq (.reg [⟨some 22, .mv (.t 7), none⟩,
  ⟨some 23, .nilChk (.t 22), none⟩,
  ⟨some 24, .fad 2 (.t 23), none⟩,
  ⟨some 25, .ld false 1 (.t 24), none⟩,
  ⟨some 26, .bin .neq (.t 25) (.c (.i .i64 (.ofNat 0))), none⟩])
 (.cond (.t 26) (.seq (.dreg 0 [⟨⟨some 27, .mv (.t 7), none⟩, 0, [], [], 0⟩,
  ⟨⟨some 28, .nilChk (.t 27), none⟩, 0, [0], [], 0⟩,
  ⟨⟨some 29, .fad 2 (.t 28), none⟩, 0, [0, 1], [], 0⟩,
  ⟨⟨some 30, .ld false 1 (.t 29), none⟩, 1, [0, 1, 2], [], 0⟩,
  ⟨⟨some 4, .mv (.c (.i .i64 (.ofNat 0))), none⟩, 0, [], [], 0⟩,
  ⟨⟨some 5, .mv (.c (.i .i64 (.ofNat 0))), none⟩, 0, [4], [], 0⟩,
  ⟨⟨some 6, .mv (.t 30), none⟩, 0, [0, 1, 2, 3, 4, 5], [], 0⟩])
 (.ret))
 (.skip))))
 (.seq (.dreg 0 [⟨⟨some 31, .mv (.t 4), none⟩, 0, [], [], 0⟩,
  ⟨⟨some 32, .mv (.t 7), none⟩, 0, [], [], 0⟩,
  ⟨⟨some 33, .nilChk (.t 32), none⟩, 0, [1], [], 0⟩,
  ⟨⟨some 34, .fad 1 (.t 33), none⟩, 0, [1, 2], [], 0⟩,
  ⟨⟨some 35, .ld false 1 (.t 34), none⟩, 1, [1, 2, 3], [], 0⟩,
  ⟨⟨some 4, .mv (.t 31), none⟩, 0, [0], [], 0⟩,
  ⟨⟨some 5, .mv (.t 35), none⟩, 0, [0, 1, 2, 3, 4, 5], [], 0⟩,
  ⟨⟨some 6, .mv (.c (.i .i64 (.ofNat 0))), none⟩, 0, [0, 1, 2, 3, 4, 5, 6], [], 0⟩])
 (.ret))))), [.t 4, .t 5, .t 6]⟩
def d150 : FDef := ⟨6, .seq (.reg [⟨some 1, .box 237 1 (.t 0), none⟩,
  ⟨some 2, .mv (.c (.sl none 0 0 true)), none⟩])
 (.seq (.reg [⟨some 3, .ld false 1 (.t 1), none⟩,
  ⟨some 4, .mkF (.func 188) [] [(.t 1)], none⟩,
  ⟨some 5, .call 187 [(.t 3), (.t 4)], none⟩,
  ⟨some 2, .mv (.t 5), none⟩])
 (.ret)), [.t 2]⟩
def d151 : FDef := ⟨24, .seq (.reg [⟨some 2, .mv (.c (.i .i64 (.ofNat 0))), none⟩])
 (.seq (.seq (.dreg 0 [⟨⟨some 3, .mv (.t 0), none⟩, 0, [], [], 0⟩,
  ⟨⟨some 4, .nilChk (.t 3), none⟩, 0, [0], [], 0⟩,
  ⟨⟨some 5, .fad 2 (.t 4), none⟩, 0, [0, 1], [], 0⟩,
  ⟨⟨some 6, .ld false 1 (.t 5), none⟩, 1, [0, 1, 2], [], 0⟩,
  ⟨⟨some 7, .bin .eql (.t 6) (.c (.i .i64 (.ofNat 0))), none⟩, 0, [0, 1, 2, 3], [], 0⟩,
  ⟨⟨some 8, .mv (.t 7), none⟩, 0, [0, 1, 2, 3, 4], [], 0⟩,
  ⟨⟨some 9, .mv (.t 0), (some (8, true))⟩, 0, [0, 1, 2, 3, 4, 5], [], 0⟩,
  ⟨⟨some 10, .nilChk (.t 9), (some (8, true))⟩, 0, [0, 1, 2, 3, 4, 5, 6], [], 0⟩,
  ⟨⟨some 11, .fad 1 (.t 10), (some (8, true))⟩, 0, [0, 1, 2, 3, 4, 5, 6, 7], [], 0⟩,
  ⟨⟨some 12, .ld false 1 (.t 11), (some (8, true))⟩, 1, [0, 1, 2, 3, 4, 5, 6, 7, 8], [], 0⟩,
  ⟨⟨some 13, .mv (.t 0), (some (8, true))⟩, 0, [0, 1, 2, 3, 4, 5], [], 0⟩,
  ⟨⟨some 14, .nilChk (.t 13), (some (8, true))⟩, 0, [0, 1, 2, 3, 4, 5, 10], [], 0⟩,
  ⟨⟨some 15, .fad 0 (.t 14), (some (8, true))⟩, 0, [0, 1, 2, 3, 4, 5, 10, 11], [], 0⟩,
  ⟨⟨some 16, .ld false 1 (.t 15), (some (8, true))⟩, 1, [0, 1, 2, 3, 4, 5, 10, 11, 12], [], 0⟩,
  ⟨⟨some 17, .lenT (.t 16), (some (8, true))⟩, 0, [0, 1, 2, 3, 4, 5, 10, 11, 12, 13], [], 0⟩,
  ⟨⟨some 18, .bin .lss (.t 12) (.t 17), (some (8, true))⟩, 0, [0, 1, 2, 3, 4, 5, 6, 7, 8, 9, 10, 11, 12, 13, 14], [], 0⟩,
  ⟨⟨some 19, .pick (.t 8) (.t 18) (.c (.b false)), none⟩, 0, [0, 1, 2, 3, 4, 5, 6, 7, 8, 9, 10, 11, 12, 13, 14, 15], [], 0⟩])
 (.cond (.t 19) (.seq (.reg [⟨some 2, .mv (.c (.i .i64 (.ofNat 5))), none⟩])
 (.ret))
 (.skip)))
 (.seq (.reg [⟨some 20, .mv (.t 0), none⟩,
  ⟨some 21, .nilChk (.t 20), none⟩,
  ⟨some 22, .fad 2 (.t 21), none⟩,
  ⟨some 23, .ld false 1 (.t 22), none⟩,
  ⟨some 2, .mv (.t 23), none⟩])
 (.ret))), [.t 2]⟩
def d152 : FDef := ⟨26, .seq (.reg [⟨some 4, .mv (.c (.i .i64 (.ofNat 0))), none⟩])
 (.seq (.reg [⟨some 8, .mv (.t 0), none⟩,
  ⟨some 5, .mv (.c (.i .i64 (.ofNat 0))), none⟩,
  ⟨some 6, .mv (.t 8), none⟩])
 (.seq (.block 0 (.loop (.seq (.seq (.reg [⟨some 9, .mv (.t 5), none⟩,
  ⟨some 10, .mv (.t 6), none⟩,
  ⟨some 11, .bin .lss (.t 9) (.t 10), none⟩])
 (.cond (.t 11) (.skip)
 (.exit 0)))
 (.block 1 (.seq (.reg [⟨some 12, .mv (.t 5), none⟩,
  ⟨some 13, .mv (.t 6), none⟩,
  ⟨some 14, .bin .add (.t 12) (.t 13), none⟩,
  ⟨some 15, .conv .u64 (.t 14), none⟩,
  ⟨some 16, .bin .shr (.t 15) (.c (.i .u64 (.ofNat 1))), none⟩,
  ⟨some 17, .conv .i64 (.t 16), none⟩,
  ⟨some 7, .mv (.t 17), none⟩])
 (.seq (.reg [⟨some 18, .mv (.t 1), none⟩,
  ⟨some 19, .mv (.t 7), none⟩,
  ⟨some 20, .callV (.t 18) [(.t 19)], none⟩,
  ⟨some 21, .un .not (.t 20), none⟩])
 (.cond (.t 21) (.reg [⟨some 22, .mv (.t 7), none⟩,
  ⟨some 23, .bin .add (.t 22) (.c (.i .i64 (.ofNat 1))), none⟩,
  ⟨some 5, .mv (.t 23), none⟩])
 (.reg [⟨some 24, .mv (.t 7), none⟩,
  ⟨some 6, .mv (.t 24), none⟩]))))))))
 (.seq (.reg [⟨some 25, .mv (.t 5), none⟩,
  ⟨some 4, .mv (.t 25), none⟩])
 (.ret)))), [.t 4]⟩
def d153 : FDef := ⟨11, .seq (.reg [⟨some 4, .mv (.c (.b false)), none⟩])
 (.seq (.dreg 0 [⟨⟨some 5, .ld false 1 (.t 1), none⟩, 1, [], [], 0⟩,
  ⟨⟨some 6, .mv (.t 0), none⟩, 0, [], [], 0⟩,
  ⟨⟨some 7, .iadS 1 (.t 5) (.t 6), none⟩, 0, [0, 1], [], 0⟩,
  ⟨⟨some 8, .ld false 1 (.t 7), none⟩, 1, [0, 1, 2], [], 0⟩,
  ⟨⟨some 9, .ld false 1 (.t 2), none⟩, 1, [], [], 0⟩,
  ⟨⟨some 10, .bin .geq (.t 8) (.t 9), none⟩, 0, [0, 1, 2, 3, 4], [], 0⟩,
  ⟨⟨some 4, .mv (.t 10), none⟩, 0, [0, 1, 2, 3, 4, 5], [], 0⟩])
 (.ret)), [.t 4]⟩
def d154 : FDef := ⟨24, .seq (.reg [⟨some 4, .mv (.c (.i .u64 (.ofNat 0))), none⟩,
  ⟨some 5, .mv (.c (.i .u64 (.ofNat 0))), none⟩,
  ⟨some 6, .mv (.c (.b false)), none⟩])
 (.seq (.reg [⟨some 9, .mv (.t 0), none⟩,
  ⟨some 10, .call 142 [(.t 9)], none⟩,
  ⟨some 8, .mv (.t 10), none⟩,
  ⟨some 11, .ext 0 (.t 8), none⟩,
  ⟨some 12, .ext 1 (.t 8), none⟩,
  ⟨some 4, .mv (.t 11), none⟩,
  ⟨some 6, .mv (.t 12), none⟩])
 (.seq (.reg [⟨some 14, .mv (.t 1), none⟩,
  ⟨some 15, .call 142 [(.t 14)], none⟩,
  ⟨some 13, .mv (.t 15), none⟩,
  ⟨some 16, .ext 0 (.t 13), none⟩,
  ⟨some 17, .ext 1 (.t 13), none⟩,
  ⟨some 5, .mv (.t 16), none⟩,
  ⟨some 7, .mv (.t 17), none⟩])
 (.seq (.reg [⟨some 18, .mv (.t 4), none⟩,
  ⟨some 19, .mv (.t 5), none⟩,
  ⟨some 20, .mv (.t 6), none⟩,
  ⟨some 21, .mv (.t 20), none⟩,
  ⟨some 22, .mv (.t 7), (some (21, true))⟩,
  ⟨some 23, .pick (.t 21) (.t 22) (.c (.b false)), none⟩,
  ⟨some 4, .mv (.t 18), none⟩,
  ⟨some 5, .mv (.t 19), none⟩,
  ⟨some 6, .mv (.t 23), none⟩])
 (.ret)))), [.t 4, .t 5, .t 6]⟩
def d155 : FDef := ⟨304, .seq (.reg [⟨some 4, .mv (.c (.s [])), none⟩,
  ⟨some 5, .mv (.c (.s [])), none⟩])
 (.seq (.seq (.reg [⟨some 30, .mv (.t 0), none⟩,
  ⟨some 31, .mv (.t 1), none⟩,
  ⟨some 32, .call 154 [(.t 30), (.t 31)], none⟩,
  ⟨some 29, .mv (.t 32), none⟩,
  ⟨some 33, .ext 0 (.t 29), none⟩,
  ⟨some 34, .ext 1 (.t 29), none⟩,
  ⟨some 35, .ext 2 (.t 29), none⟩,
  ⟨some 6, .mv (.t 33), none⟩,
  ⟨some 7, .mv (.t 34), none⟩,
  ⟨some 8, .mv (.t 35), none⟩])
 (.seq (.reg [⟨some 36, .mv (.t 8), none⟩])
 (.cond (.t 36) (.seq (.dreg 0 [⟨⟨some 37, .mv (.t 6), none⟩, 0, [], [], 0⟩,
  ⟨⟨some 38, .mv (.t 7), none⟩, 0, [], [], 0⟩,
  ⟨⟨some 39, .bin .quo (.t 37) (.t 38), none⟩, 0, [0, 1], [], 0⟩,
  ⟨⟨some 40, .call 119 [(.t 39)], none⟩, 2, [0, 1, 2], [], 0⟩,
  ⟨⟨some 41, .mv (.t 6), none⟩, 0, [], [], 0⟩,
  ⟨⟨some 42, .mv (.t 7), none⟩, 0, [], [], 0⟩,
  ⟨⟨some 43, .bin .rem (.t 41) (.t 42), none⟩, 0, [4, 5], [], 0⟩,
  ⟨⟨some 44, .call 119 [(.t 43)], none⟩, 2, [0, 1, 2, 3, 4, 5, 6], [], 0⟩,
  ⟨⟨some 4, .mv (.t 40), none⟩, 0, [0, 1, 2, 3, 4, 5, 6, 7], [], 0⟩,
  ⟨⟨some 5, .mv (.t 44), none⟩, 0, [0, 1, 2, 3, 4, 5, 6, 7, 8], [], 0⟩])
 (.ret))
 (.skip))))
 (.seq (.seq (.reg [⟨some 45, .mv (.t 0), none⟩,
  ⟨some 46, .mv (.t 1), none⟩,
  ⟨some 47, .call 117 [(.t 45), (.t 46)], none⟩,
  ⟨some 48, .bin .lss (.t 47) (.c (.i .i64 (.ofNat 0))), none⟩])
 (.cond (.t 48) (.seq (.reg [⟨some 49, .mv (.t 0), none⟩,
  ⟨some 4, .mv (.c (.s [])), none⟩,
  ⟨some 5, .mv (.t 49), none⟩])
 (.ret))
 (.skip)))
 (.seq (.reg [⟨some 50, .mv (.t 1), none⟩,
  ⟨some 51, .call 157 [(.t 50)], none⟩,
  ⟨some 9, .mv (.t 51), none⟩])
 (.seq (.seq (.reg [⟨some 52, .mv (.t 9), none⟩,
  ⟨some 53, .lenS (.t 52), none⟩,
  ⟨some 54, .bin .eql (.t 53) (.c (.i .i64 (.ofNat 1))), none⟩])
 (.cond (.t 54) (.seq (.reg [⟨some 55, .mv (.t 0), none⟩,
  ⟨some 56, .call 157 [(.t 55)], none⟩,
  ⟨some 10, .mv (.t 56), none⟩])
 (.seq (.reg [⟨some 57, .mv (.t 10), none⟩,
  ⟨some 58, .mv (.t 9), none⟩,
  ⟨some 59, .iadS 1 (.t 58) (.c (.i .i64 (.ofNat 0))), none⟩,
  ⟨some 60, .ld false 1 (.t 59), none⟩,
  ⟨some 61, .call 191 [(.t 57), (.t 60)], none⟩,
  ⟨some 11, .mv (.t 61), none⟩])
 (.seq (.reg [⟨some 62, .mv (.t 10), none⟩,
  ⟨some 63, .call 158 [(.t 62)], none⟩,
  ⟨some 64, .mv (.t 11), none⟩,
  ⟨some 65, .conv .u64 (.t 64), none⟩,
  ⟨some 66, .call 119 [(.t 65)], none⟩,
  ⟨some 4, .mv (.t 63), none⟩,
  ⟨some 5, .mv (.t 66), none⟩])
 (.ret))))
 (.skip)))
 (.seq (.reg [⟨some 67, .mv (.t 9), none⟩,
  ⟨some 68, .mv (.t 9), none⟩,
  ⟨some 69, .lenS (.t 68), none⟩,
  ⟨some 70, .bin .sub (.t 69) (.c (.i .i64 (.ofNat 1))), none⟩,
  ⟨some 71, .iadS 1 (.t 67) (.t 70), none⟩,
  ⟨some 72, .ld false 1 (.t 71), none⟩,
  ⟨some 73, .call 192 [(.t 72)], none⟩,
  ⟨some 12, .mv (.t 73), none⟩])
 (.seq (.reg [⟨some 74, .mv (.t 0), none⟩,
  ⟨some 75, .call 157 [(.t 74)], none⟩,
  ⟨some 76, .mv (.t 12), none⟩,
  ⟨some 77, .call 193 [(.t 75), (.t 76)], none⟩,
  ⟨some 13, .mv (.t 77), none⟩])
 (.seq (.reg [⟨some 78, .mv (.t 9), none⟩,
  ⟨some 79, .mv (.t 12), none⟩,
  ⟨some 80, .call 193 [(.t 78), (.t 79)], none⟩,
  ⟨some 81, .mv (.t 9), none⟩,
  ⟨some 82, .lenS (.t 81), none⟩,
  ⟨some 83, .slcS 1 (.t 80) none (some (.t 82)) none, none⟩,
  ⟨some 9, .mv (.t 83), none⟩])
 (.seq (.reg [⟨some 84, .mv (.t 9), none⟩,
  ⟨some 85, .lenS (.t 84), none⟩,
  ⟨some 14, .mv (.t 85), none⟩])
 (.seq (.reg [⟨some 86, .mv (.t 13), none⟩,
  ⟨some 87, .lenS (.t 86), none⟩,
  ⟨some 88, .mv (.t 14), none⟩,
  ⟨some 89, .bin .sub (.t 87) (.t 88), none⟩,
  ⟨some 90, .mkS 159 1 4 [.i .u32 (.ofNat 0)] (.t 89) (.t 89), none⟩,
  ⟨some 15, .mv (.t 90), none⟩])
 (.seq (.seq (.reg [⟨some 91, .mv (.t 15), none⟩,
  ⟨some 92, .lenS (.t 91), none⟩,
  ⟨some 93, .bin .sub (.t 92) (.c (.i .i64 (.ofNat 1))), none⟩,
  ⟨some 16, .mv (.t 93), none⟩])
 (.block 0 (.loop (.seq (.seq (.reg [⟨some 94, .mv (.t 16), none⟩,
  ⟨some 95, .bin .geq (.t 94) (.c (.i .i64 (.ofNat 0))), none⟩])
 (.cond (.t 95) (.skip)
 (.exit 0)))
 (.seq (.block 1 (.seq (.dreg 0 [⟨⟨some 98, .mv (.t 13), none⟩, 0, [], [], 0⟩,
  ⟨⟨some 99, .mv (.t 16), none⟩, 0, [], [], 0⟩,
  ⟨⟨some 100, .mv (.t 14), none⟩, 0, [], [], 0⟩,
  ⟨⟨some 101, .bin .add (.t 99) (.t 100), none⟩, 0, [1, 2], [], 0⟩,
  ⟨⟨some 102, .iadS 1 (.t 98) (.t 101), none⟩, 0, [0, 1, 2, 3], [], 0⟩,
  ⟨⟨some 103, .ld false 1 (.t 102), none⟩, 1, [0, 1, 2, 3, 4], [], 0⟩,
  ⟨⟨some 104, .conv .u64 (.t 103), none⟩, 0, [0, 1, 2, 3, 4, 5], [], 0⟩,
  ⟨⟨some 105, .bin .shl (.t 104) (.c (.i .u64 (.ofNat 32))), none⟩, 0, [0, 1, 2, 3, 4, 5, 6], [], 0⟩,
  ⟨⟨some 106, .mv (.t 13), none⟩, 0, [], [], 0⟩,
  ⟨⟨some 107, .mv (.t 16), none⟩, 0, [], [], 0⟩,
  ⟨⟨some 108, .mv (.t 14), none⟩, 0, [], [], 0⟩,
  ⟨⟨some 109, .bin .add (.t 107) (.t 108), none⟩, 0, [9, 10], [], 0⟩,
  ⟨⟨some 110, .bin .sub (.t 109) (.c (.i .i64 (.ofNat 1))), none⟩, 0, [9, 10, 11], [], 0⟩,
  ⟨⟨some 111, .iadS 1 (.t 106) (.t 110), none⟩, 0, [8, 9, 10, 11, 12], [], 0⟩,
  ⟨⟨some 112, .ld false 1 (.t 111), none⟩, 1, [8, 9, 10, 11, 12, 13], [], 0⟩,
  ⟨⟨some 113, .conv .u64 (.t 112), none⟩, 0, [8, 9, 10, 11, 12, 13, 14], [], 0⟩,
  ⟨⟨some 114, .bin .or (.t 105) (.t 113), none⟩, 0, [0, 1, 2, 3, 4, 5, 6, 7, 8, 9, 10, 11, 12, 13, 14, 15], [], 0⟩,
  ⟨⟨some 17, .mv (.t 114), none⟩, 0, [0, 1, 2, 3, 4, 5, 6, 7, 8, 9, 10, 11, 12, 13, 14, 15, 16], [], 0⟩])
 (.seq (.dreg 0 [⟨⟨some 115, .mv (.t 17), none⟩, 0, [], [], 0⟩,
  ⟨⟨some 116, .mv (.t 9), none⟩, 0, [], [], 0⟩,
  ⟨⟨some 117, .mv (.t 14), none⟩, 0, [], [], 0⟩,
  ⟨⟨some 118, .bin .sub (.t 117) (.c (.i .i64 (.ofNat 1))), none⟩, 0, [2], [], 0⟩,
  ⟨⟨some 119, .iadS 1 (.t 116) (.t 118), none⟩, 0, [1, 2, 3], [], 0⟩,
  ⟨⟨some 120, .ld false 1 (.t 119), none⟩, 1, [1, 2, 3, 4], [], 0⟩,
  ⟨⟨some 121, .conv .u64 (.t 120), none⟩, 0, [1, 2, 3, 4, 5], [], 0⟩,
  ⟨⟨some 122, .bin .quo (.t 115) (.t 121), none⟩, 0, [0, 1, 2, 3, 4, 5, 6], [], 0⟩,
  ⟨⟨some 123, .mv (.t 17), none⟩, 0, [], [], 0⟩,
  ⟨⟨some 124, .mv (.t 9), none⟩, 0, [], [], 0⟩,
  ⟨⟨some 125, .mv (.t 14), none⟩, 0, [], [], 0⟩,
  ⟨⟨some 126, .bin .sub (.t 125) (.c (.i .i64 (.ofNat 1))), none⟩, 0, [10], [], 0⟩,
  ⟨⟨some 127, .iadS 1 (.t 124) (.t 126), none⟩, 0, [9, 10, 11], [], 0⟩,
  ⟨⟨some 128, .ld false 1 (.t 127), none⟩, 1, [9, 10, 11, 12], [], 0⟩,
  ⟨⟨some 129, .conv .u64 (.t 128), none⟩, 0, [9, 10, 11, 12, 13], [], 0⟩,
  ⟨⟨some 130, .bin .rem (.t 123) (.t 129), none⟩, 0, [8, 9, 10, 11, 12, 13, 14], [], 0⟩,
  ⟨⟨some 18, .mv (.t 122), none⟩, 0, [0, 1, 2, 3, 4, 5, 6, 7], [], 0⟩,
  ⟨⟨some 19, .mv (.t 130), none⟩, 0, [0, 1, 2, 3, 4, 5, 6, 7, 8, 9, 10, 11, 12, 13, 14, 15, 16], [], 0⟩])
 (.seq (.block 2 (.loop (.seq (.seq (.dreg 0 [⟨⟨some 131, .mv (.t 18), none⟩, 0, [], [], 0⟩,
  ⟨⟨some 132, .bin .geq (.t 131) (.c (.i .u64 (.ofNat 4294967296))), none⟩, 0, [0], [], 0⟩,
  ⟨⟨some 133, .mv (.t 132), none⟩, 0, [0, 1], [], 0⟩,
  ⟨⟨some 134, .mv (.t 18), (some (133, false))⟩, 0, [0, 1, 2], [], 0⟩,
  ⟨⟨some 135, .mv (.t 9), (some (133, false))⟩, 0, [0, 1, 2], [], 0⟩,
  ⟨⟨some 136, .mv (.t 14), (some (133, false))⟩, 0, [0, 1, 2], [], 0⟩,
  ⟨⟨some 137, .bin .sub (.t 136) (.c (.i .i64 (.ofNat 2))), (some (133, false))⟩, 0, [0, 1, 2, 5], [], 0⟩,
  ⟨⟨some 138, .iadS 1 (.t 135) (.t 137), (some (133, false))⟩, 0, [0, 1, 2, 4, 5, 6], [], 0⟩,
  ⟨⟨some 139, .ld false 1 (.t 138), (some (133, false))⟩, 1, [0, 1, 2, 4, 5, 6, 7], [], 0⟩,
  ⟨⟨some 140, .conv .u64 (.t 139), (some (133, false))⟩, 0, [0, 1, 2, 4, 5, 6, 7, 8], [], 0⟩,
  ⟨⟨some 141, .bin .mul (.t 134) (.t 140), (some (133, false))⟩, 0, [0, 1, 2, 3, 4, 5, 6, 7, 8, 9], [], 0⟩,
  ⟨⟨some 142, .mv (.t 19), (some (133, false))⟩, 0, [0, 1, 2], [], 0⟩,
  ⟨⟨some 143, .bin .shl (.t 142) (.c (.i .u64 (.ofNat 32))), (some (133, false))⟩, 0, [0, 1, 2, 11], [], 0⟩,
  ⟨⟨some 144, .mv (.t 13), (some (133, false))⟩, 0, [0, 1, 2], [], 0⟩,
  ⟨⟨some 145, .mv (.t 16), (some (133, false))⟩, 0, [0, 1, 2], [], 0⟩,
  ⟨⟨some 146, .mv (.t 14), (some (133, false))⟩, 0, [0, 1, 2], [], 0⟩,
  ⟨⟨some 147, .bin .add (.t 145) (.t 146), (some (133, false))⟩, 0, [0, 1, 2, 14, 15], [], 0⟩,
  ⟨⟨some 148, .bin .sub (.t 147) (.c (.i .i64 (.ofNat 2))), (some (133, false))⟩, 0, [0, 1, 2, 14, 15, 16], [], 0⟩,
  ⟨⟨some 149, .iadS 1 (.t 144) (.t 148), (some (133, false))⟩, 0, [0, 1, 2, 13, 14, 15, 16, 17], [], 0⟩,
  ⟨⟨some 150, .ld false 1 (.t 149), (some (133, false))⟩, 1, [0, 1, 2, 13, 14, 15, 16, 17, 18], [], 0⟩,
  ⟨⟨some 151, .conv .u64 (.t 150), (some (133, false))⟩, 0, [0, 1, 2, 13, 14, 15, 16, 17, 18, 19], [], 0⟩,
  ⟨⟨some 152, .bin .or (.t 143) (.t 151), (some (133, false))⟩, 0, [0, 1, 2, 11, 12, 13, 14, 15, 16, 17, 18, 19, 20], [], 0⟩,
  ⟨⟨some 153, .bin .gtr (.t 141) (.t 152), (some (133, false))⟩, 0, [0, 1, 2, 3, 4, 5, 6, 7, 8, 9, 10, 11, 12, 13, 14, 15, 16, 17, 18, 19, 20, 21], [], 0⟩,
  ⟨⟨some 154, .pick (.t 133) (.c (.b true)) (.t 153), none⟩, 0, [0, 1, 2, 3, 4, 5, 6, 7, 8, 9, 10, 11, 12, 13, 14, 15, 16, 17, 18, 19, 20, 21, 22], [], 0⟩])
 (.cond (.t 154) (.skip)
 (.exit 2)))
 (.block 3 (.seq (.reg [⟨some 155, .mv (.t 18), none⟩,
  ⟨some 156, .bin .sub (.t 155) (.c (.i .u64 (.ofNat 1))), none⟩,
  ⟨some 18, .mv (.t 156), none⟩])
 (.seq (.reg [⟨some 157, .mv (.t 19), none⟩,
  ⟨some 158, .mv (.t 9), none⟩,
  ⟨some 159, .mv (.t 14), none⟩,
  ⟨some 160, .bin .sub (.t 159) (.c (.i .i64 (.ofNat 1))), none⟩,
  ⟨some 161, .iadS 1 (.t 158) (.t 160), none⟩,
  ⟨some 162, .ld false 1 (.t 161), none⟩,
  ⟨some 163, .conv .u64 (.t 162), none⟩,
  ⟨some 164, .bin .add (.t 157) (.t 163), none⟩,
  ⟨some 19, .mv (.t 164), none⟩])
 (.seq (.reg [⟨some 165, .mv (.t 19), none⟩,
  ⟨some 166, .bin .geq (.t 165) (.c (.i .u64 (.ofNat 4294967296))), none⟩])
 (.cond (.t 166) (.exit 2)
 (.skip)))))))))
 (.seq (.reg [⟨some 20, .mv (.c (.i .i64 (.ofNat 0))), none⟩,
  ⟨some 21, .mv (.c (.i .u64 (.ofNat 0))), none⟩])
 (.seq (.seq (.reg [⟨some 167, .mv (.t 14), none⟩,
  ⟨some 168, .mv (.c (.i .i64 (.ofNat 0))), none⟩])
 (.block 4 (.loop (.seq (.reg [⟨some 169, .bin .lss (.t 168) (.t 167), none⟩])
 (.seq (.cond (.t 169) (.skip)
 (.exit 4))
 (.seq (.block 5 (.seq (.reg [⟨some 170, .mv (.t 168), none⟩,
  ⟨some 22, .mv (.t 170), none⟩])
 (.seq (.reg [⟨some 171, .mv (.t 21), none⟩,
  ⟨some 172, .mv (.t 18), none⟩,
  ⟨some 173, .mv (.t 9), none⟩,
  ⟨some 174, .mv (.t 22), none⟩,
  ⟨some 175, .iadS 1 (.t 173) (.t 174), none⟩,
  ⟨some 176, .ld false 1 (.t 175), none⟩,
  ⟨some 177, .conv .u64 (.t 176), none⟩,
  ⟨some 178, .bin .mul (.t 172) (.t 177), none⟩,
  ⟨some 179, .bin .add (.t 171) (.t 178), none⟩,
  ⟨some 21, .mv (.t 179), none⟩])
 (.seq (.reg [⟨some 180, .mv (.t 13), none⟩,
  ⟨some 181, .mv (.t 22), none⟩,
  ⟨some 182, .mv (.t 16), none⟩,
  ⟨some 183, .bin .add (.t 181) (.t 182), none⟩,
  ⟨some 184, .iadS 1 (.t 180) (.t 183), none⟩,
  ⟨some 185, .ld false 1 (.t 184), none⟩,
  ⟨some 186, .conv .i64 (.t 185), none⟩,
  ⟨some 187, .mv (.t 20), none⟩,
  ⟨some 188, .bin .sub (.t 186) (.t 187), none⟩,
  ⟨some 189, .mv (.t 21), none⟩,
  ⟨some 190, .conv .u32 (.t 189), none⟩,
  ⟨some 191, .conv .i64 (.t 190), none⟩,
  ⟨some 192, .bin .sub (.t 188) (.t 191), none⟩,
  ⟨some 23, .mv (.t 192), none⟩])
 (.seq (.reg [⟨some 193, .mv (.t 21), none⟩,
  ⟨some 194, .bin .shr (.t 193) (.c (.i .u64 (.ofNat 32))), none⟩,
  ⟨some 21, .mv (.t 194), none⟩])
 (.seq (.reg [⟨some 20, .mv (.c (.i .i64 (.ofNat 0))), none⟩])
 (.seq (.seq (.reg [⟨some 195, .mv (.t 23), none⟩,
  ⟨some 196, .bin .lss (.t 195) (.c (.i .i64 (.ofNat 0))), none⟩])
 (.cond (.t 196) (.reg [⟨some 197, .mv (.t 23), none⟩,
  ⟨some 198, .bin .add (.t 197) (.c (.i .i64 (.ofNat 4294967296))), none⟩,
  ⟨some 23, .mv (.t 198), none⟩,
  ⟨some 20, .mv (.c (.i .i64 (.ofNat 1))), none⟩])
 (.skip)))
 (.reg [⟨some 199, .mv (.t 13), none⟩,
  ⟨some 200, .mv (.t 22), none⟩,
  ⟨some 201, .mv (.t 16), none⟩,
  ⟨some 202, .bin .add (.t 200) (.t 201), none⟩,
  ⟨some 203, .mv (.t 23), none⟩,
  ⟨some 204, .conv .u32 (.t 203), none⟩,
  ⟨some 205, .iadS 1 (.t 199) (.t 202), none⟩,
  ⟨none, .st 1 (.t 205) (.t 204), none⟩]))))))))
 (.reg [⟨some 206, .bin .add (.t 168) (.c (.i .i64 (.ofNat 1))), none⟩,
  ⟨some 168, .mv (.t 206), none⟩])))))))
 (.seq (.reg [⟨some 207, .mv (.t 13), none⟩,
  ⟨some 208, .mv (.t 16), none⟩,
  ⟨some 209, .mv (.t 14), none⟩,
  ⟨some 210, .bin .add (.t 208) (.t 209), none⟩,
  ⟨some 211, .iadS 1 (.t 207) (.t 210), none⟩,
  ⟨some 212, .ld false 1 (.t 211), none⟩,
  ⟨some 213, .conv .i64 (.t 212), none⟩,
  ⟨some 214, .mv (.t 20), none⟩,
  ⟨some 215, .bin .sub (.t 213) (.t 214), none⟩,
  ⟨some 216, .mv (.t 21), none⟩,
  ⟨some 217, .conv .i64 (.t 216), none⟩,
  ⟨some 218, .bin .sub (.t 215) (.t 217), none⟩,
  ⟨some 24, .mv (.t 218), none⟩])
 (.seq (.reg [⟨some 219, .mv (.t 13), none⟩,
  ⟨some 220, .mv (.t 16), none⟩,
  ⟨some 221, .mv (.t 14), none⟩,
  ⟨some 222, .bin .add (.t 220) (.t 221), none⟩,
  ⟨some 223, .mv (.t 24), none⟩,
  ⟨some 224, .conv .u32 (.t 223), none⟩,
  ⟨some 225, .iadS 1 (.t 219) (.t 222), none⟩,
  ⟨none, .st 1 (.t 225) (.t 224), none⟩])
 (.seq (.seq (.reg [⟨some 226, .mv (.t 24), none⟩,
  ⟨some 227, .bin .lss (.t 226) (.c (.i .i64 (.ofNat 0))), none⟩])
 (.cond (.t 227) (.seq (.reg [⟨some 228, .mv (.t 18), none⟩,
  ⟨some 229, .bin .sub (.t 228) (.c (.i .u64 (.ofNat 1))), none⟩,
  ⟨some 18, .mv (.t 229), none⟩])
 (.seq (.reg [⟨some 25, .mv (.c (.i .u64 (.ofNat 0))), none⟩])
 (.seq (.seq (.reg [⟨some 230, .mv (.t 14), none⟩,
  ⟨some 231, .mv (.c (.i .i64 (.ofNat 0))), none⟩])
 (.block 6 (.loop (.seq (.reg [⟨some 232, .bin .lss (.t 231) (.t 230), none⟩])
 (.seq (.cond (.t 232) (.skip)
 (.exit 6))
 (.seq (.block 7 (.seq (.reg [⟨some 233, .mv (.t 231), none⟩,
  ⟨some 26, .mv (.t 233), none⟩])
 (.seq (.dreg 0 [⟨⟨some 234, .mv (.t 25), none⟩, 0, [], [], 0⟩,
  ⟨⟨some 235, .mv (.t 13), none⟩, 0, [], [], 0⟩,
  ⟨⟨some 236, .mv (.t 26), none⟩, 0, [], [], 0⟩,
  ⟨⟨some 237, .mv (.t 16), none⟩, 0, [], [], 0⟩,
  ⟨⟨some 238, .bin .add (.t 236) (.t 237), none⟩, 0, [2, 3], [], 0⟩,
  ⟨⟨some 239, .iadS 1 (.t 235) (.t 238), none⟩, 0, [1, 2, 3, 4], [], 0⟩,
  ⟨⟨some 240, .ld false 1 (.t 239), none⟩, 1, [1, 2, 3, 4, 5], [], 0⟩,
  ⟨⟨some 241, .conv .u64 (.t 240), none⟩, 0, [1, 2, 3, 4, 5, 6], [], 0⟩,
  ⟨⟨some 242, .mv (.t 9), none⟩, 0, [], [], 0⟩,
  ⟨⟨some 243, .mv (.t 26), none⟩, 0, [], [], 0⟩,
  ⟨⟨some 244, .iadS 1 (.t 242) (.t 243), none⟩, 0, [8, 9], [], 0⟩,
  ⟨⟨some 245, .ld false 1 (.t 244), none⟩, 1, [8, 9, 10], [], 0⟩,
  ⟨⟨some 246, .conv .u64 (.t 245), none⟩, 0, [8, 9, 10, 11], [], 0⟩,
  ⟨⟨some 247, .bin .add (.t 241) (.t 246), none⟩, 0, [1, 2, 3, 4, 5, 6, 7, 8, 9, 10, 11, 12], [], 0⟩,
  ⟨⟨some 248, .bin .add (.t 234) (.t 247), none⟩, 0, [0, 1, 2, 3, 4, 5, 6, 7, 8, 9, 10, 11, 12, 13], [], 0⟩,
  ⟨⟨some 25, .mv (.t 248), none⟩, 0, [0, 1, 2, 3, 4, 5, 6, 7, 8, 9, 10, 11, 12, 13, 14], [], 0⟩])
 (.reg [⟨some 249, .mv (.t 13), none⟩,
  ⟨some 250, .mv (.t 26), none⟩,
  ⟨some 251, .mv (.t 16), none⟩,
  ⟨some 252, .bin .add (.t 250) (.t 251), none⟩,
  ⟨some 253, .mv (.t 25), none⟩,
  ⟨some 254, .conv .u32 (.t 253), none⟩,
  ⟨some 255, .mv (.t 25), none⟩,
  ⟨some 256, .bin .shr (.t 255) (.c (.i .u64 (.ofNat 32))), none⟩,
  ⟨some 257, .iadS 1 (.t 249) (.t 252), none⟩,
  ⟨none, .st 1 (.t 257) (.t 254), none⟩,
  ⟨some 25, .mv (.t 256), none⟩]))))
 (.reg [⟨some 258, .bin .add (.t 231) (.c (.i .i64 (.ofNat 1))), none⟩,
  ⟨some 231, .mv (.t 258), none⟩])))))))
 (.reg [⟨some 259, .mv (.t 13), none⟩,
  ⟨some 260, .mv (.t 16), none⟩,
  ⟨some 261, .mv (.t 14), none⟩,
  ⟨some 262, .bin .add (.t 260) (.t 261), none⟩,
  ⟨some 263, .iadS 1 (.t 259) (.t 262), none⟩,
  ⟨some 264, .ld false 1 (.t 263), none⟩,
  ⟨some 265, .mv (.t 25), none⟩,
  ⟨some 266, .conv .u32 (.t 265), none⟩,
  ⟨some 267, .bin .add (.t 264) (.t 266), none⟩,
  ⟨some 268, .iadS 1 (.t 259) (.t 262), none⟩,
  ⟨none, .st 1 (.t 268) (.t 267), none⟩]))))
 (.skip)))
 (.reg [⟨some 269, .mv (.t 15), none⟩,
  ⟨some 270, .mv (.t 16), none⟩,
  ⟨some 271, .mv (.t 18), none⟩,
  ⟨some 272, .conv .u32 (.t 271), none⟩,
  ⟨some 273, .iadS 1 (.t 269) (.t 270), none⟩,
  ⟨none, .st 1 (.t 273) (.t 272), none⟩]))))))))))
 (.reg [⟨some 96, .mv (.t 16), none⟩,
  ⟨some 97, .bin .sub (.t 96) (.c (.i .i64 (.ofNat 1))), none⟩,
  ⟨some 16, .mv (.t 97), none⟩]))))))
 (.seq (.reg [⟨some 274, .mv (.t 14), none⟩,
  ⟨some 275, .mkS 159 1 4 [.i .u32 (.ofNat 0)] (.t 274) (.t 274), none⟩,
  ⟨some 27, .mv (.t 275), none⟩])
 (.seq (.seq (.reg [⟨some 276, .mv (.t 14), none⟩,
  ⟨some 277, .mv (.c (.i .i64 (.ofNat 0))), none⟩])
 (.block 8 (.loop (.seq (.reg [⟨some 278, .bin .lss (.t 277) (.t 276), none⟩])
 (.seq (.cond (.t 278) (.skip)
 (.exit 8))
 (.seq (.block 9 (.seq (.reg [⟨some 279, .mv (.t 277), none⟩,
  ⟨some 28, .mv (.t 279), none⟩])
 (.dreg 0 [⟨⟨some 280, .mv (.t 27), none⟩, 0, [], [], 0⟩,
  ⟨⟨some 281, .mv (.t 28), none⟩, 0, [], [], 0⟩,
  ⟨⟨some 282, .mv (.t 13), none⟩, 0, [], [], 0⟩,
  ⟨⟨some 283, .mv (.t 28), none⟩, 0, [], [], 0⟩,
  ⟨⟨some 284, .bin .add (.t 283) (.c (.i .i64 (.ofNat 1))), none⟩, 0, [3], [], 0⟩,
  ⟨⟨some 285, .iadS 1 (.t 282) (.t 284), none⟩, 0, [2, 3, 4], [], 0⟩,
  ⟨⟨some 286, .ld false 1 (.t 285), none⟩, 1, [2, 3, 4, 5], [], 0⟩,
  ⟨⟨some 287, .conv .u64 (.t 286), none⟩, 0, [2, 3, 4, 5, 6], [], 0⟩,
  ⟨⟨some 288, .bin .shl (.t 287) (.c (.i .u64 (.ofNat 32))), none⟩, 0, [2, 3, 4, 5, 6, 7], [], 0⟩,
  ⟨⟨some 289, .mv (.t 13), none⟩, 0, [], [], 0⟩,
  ⟨⟨some 290, .mv (.t 28), none⟩, 0, [], [], 0⟩,
  ⟨⟨some 291, .iadS 1 (.t 289) (.t 290), none⟩, 0, [9, 10], [], 0⟩,
  ⟨⟨some 292, .ld false 1 (.t 291), none⟩, 1, [9, 10, 11], [], 0⟩,
  ⟨⟨some 293, .conv .u64 (.t 292), none⟩, 0, [9, 10, 11, 12], [], 0⟩,
  ⟨⟨some 294, .bin .or (.t 288) (.t 293), none⟩, 0, [2, 3, 4, 5, 6, 7, 8, 9, 10, 11, 12, 13], [], 0⟩,
  ⟨⟨some 295, .mv (.t 12), none⟩, 0, [], [], 0⟩,
  ⟨⟨some 296, .bin .shr (.t 294) (.t 295), none⟩, 0, [2, 3, 4, 5, 6, 7, 8, 9, 10, 11, 12, 13, 14, 15], [], 0⟩,
  ⟨⟨some 297, .conv .u32 (.t 296), none⟩, 0, [2, 3, 4, 5, 6, 7, 8, 9, 10, 11, 12, 13, 14, 15, 16], [], 0⟩,
  ⟨⟨some 298, .iadS 1 (.t 280) (.t 281), none⟩, 0, [0, 1, 2, 3, 4, 5, 6, 7, 8, 9, 10, 11, 12, 13, 14, 15, 16, 17], [], 0⟩,
  ⟨⟨none, .st 1 (.t 298) (.t 297), none⟩, 2, [0, 1, 2, 3, 4, 5, 6, 7, 8, 9, 10, 11, 12, 13, 14, 15, 16, 17, 18], [], 0⟩])))
 (.reg [⟨some 299, .bin .add (.t 277) (.c (.i .i64 (.ofNat 1))), none⟩,
  ⟨some 277, .mv (.t 299), none⟩])))))))
 (.seq (.reg [⟨some 300, .mv (.t 15), none⟩,
  ⟨some 301, .call 158 [(.t 300)], none⟩,
  ⟨some 302, .mv (.t 27), none⟩,
  ⟨some 303, .call 158 [(.t 302)], none⟩,
  ⟨some 4, .mv (.t 301), none⟩,
  ⟨some 5, .mv (.t 303), none⟩])
 (.ret)))))))))))))), [.t 4, .t 5]⟩
def d157 : FDef := ⟨38, .seq (.reg [⟨some 2, .mv (.c (.sl none 0 0 true)), none⟩])
 (.seq (.reg [⟨some 6, .mv (.t 0), none⟩,
  ⟨some 7, .lenT (.t 6), none⟩,
  ⟨some 8, .bin .add (.t 7) (.c (.i .i64 (.ofNat 3))), none⟩,
  ⟨some 9, .bin .quo (.t 8) (.c (.i .i64 (.ofNat 4))), none⟩,
  ⟨some 10, .mkS 159 1 4 [.i .u32 (.ofNat 0)] (.t 9) (.t 9), none⟩,
  ⟨some 3, .mv (.t 10), none⟩])
 (.seq (.seq (.reg [⟨some 11, .mv (.t 0), none⟩,
  ⟨some 12, .lenT (.t 11), none⟩,
  ⟨some 13, .mv (.c (.i .i64 (.ofNat 0))), none⟩])
 (.block 0 (.loop (.seq (.reg [⟨some 14, .bin .lss (.t 13) (.t 12), none⟩])
 (.seq (.cond (.t 14) (.skip)
 (.exit 0))
 (.seq (.block 1 (.seq (.reg [⟨some 15, .mv (.t 13), none⟩,
  ⟨some 4, .mv (.t 15), none⟩])
 (.seq (.reg [⟨some 16, .mv (.t 0), none⟩,
  ⟨some 17, .lenT (.t 16), none⟩,
  ⟨some 18, .bin .sub (.t 17) (.c (.i .i64 (.ofNat 1))), none⟩,
  ⟨some 19, .mv (.t 4), none⟩,
  ⟨some 20, .bin .sub (.t 18) (.t 19), none⟩,
  ⟨some 5, .mv (.t 20), none⟩])
 (.dreg 0 [⟨⟨some 21, .mv (.t 3), none⟩, 0, [], [], 0⟩,
  ⟨⟨some 22, .mv (.t 4), none⟩, 0, [], [], 0⟩,
  ⟨⟨some 23, .bin .quo (.t 22) (.c (.i .i64 (.ofNat 4))), none⟩, 0, [1], [], 0⟩,
  ⟨⟨some 24, .iadS 1 (.t 21) (.t 23), none⟩, 0, [0, 1, 2], [], 0⟩,
  ⟨⟨some 25, .ld false 1 (.t 24), none⟩, 1, [0, 1, 2, 3], [], 0⟩,
  ⟨⟨some 26, .mv (.t 0), none⟩, 0, [], [], 0⟩,
  ⟨⟨some 27, .mv (.t 5), none⟩, 0, [], [], 0⟩,
  ⟨⟨some 28, .idxT (.t 26) (.t 27), none⟩, 0, [5, 6], [], 0⟩,
  ⟨⟨some 29, .conv .u32 (.t 28), none⟩, 0, [5, 6, 7], [], 0⟩,
  ⟨⟨some 30, .mv (.t 4), none⟩, 0, [], [], 0⟩,
  ⟨⟨some 31, .bin .rem (.t 30) (.c (.i .i64 (.ofNat 4))), none⟩, 0, [9], [], 0⟩,
  ⟨⟨some 32, .bin .mul (.c (.i .i64 (.ofNat 8))) (.t 31), none⟩, 0, [9, 10], [], 0⟩,
  ⟨⟨some 33, .bin .shl (.t 29) (.t 32), none⟩, 0, [5, 6, 7, 8, 9, 10, 11], [], 0⟩,
  ⟨⟨some 34, .bin .or (.t 25) (.t 33), none⟩, 0, [0, 1, 2, 3, 4, 5, 6, 7, 8, 9, 10, 11, 12], [], 0⟩,
  ⟨⟨some 35, .iadS 1 (.t 21) (.t 23), none⟩, 0, [0, 1, 2, 3, 4, 5, 6, 7, 8, 9, 10, 11, 12, 13], [], 0⟩,
  ⟨⟨none, .st 1 (.t 35) (.t 34), none⟩, 2, [0, 1, 2, 3, 4, 5, 6, 7, 8, 9, 10, 11, 12, 13, 14], [], 0⟩]))))
 (.reg [⟨some 36, .bin .add (.t 13) (.c (.i .i64 (.ofNat 1))), none⟩,
  ⟨some 13, .mv (.t 36), none⟩])))))))
 (.seq (.reg [⟨some 37, .mv (.t 3), none⟩,
  ⟨some 2, .mv (.t 37), none⟩])
 (.ret)))), [.t 2]⟩
def d158 : FDef := ⟨46, .seq (.reg [⟨some 2, .mv (.c (.s [])), none⟩])
 (.seq (.reg [⟨some 7, .mv (.t 0), none⟩,
  ⟨some 8, .call 194 [(.t 7)], none⟩,
  ⟨some 0, .mv (.t 8), none⟩])
 (.seq (.seq (.reg [⟨some 9, .mv (.t 0), none⟩,
  ⟨some 10, .lenS (.t 9), none⟩,
  ⟨some 11, .bin .eql (.t 10) (.c (.i .i64 (.ofNat 0))), none⟩])
 (.cond (.t 11) (.seq (.reg [⟨some 2, .mv (.c (.s [])), none⟩])
 (.ret))
 (.skip)))
 (.seq (.reg [⟨some 12, .mv (.t 0), none⟩,
  ⟨some 13, .lenS (.t 12), none⟩,
  ⟨some 14, .bin .mul (.c (.i .i64 (.ofNat 4))) (.t 13), none⟩,
  ⟨some 15, .mkS 5 1 1 [.i .u8 (.ofNat 0)] (.t 14) (.t 14), none⟩,
  ⟨some 3, .mv (.t 15), none⟩])
 (.seq (.seq (.reg [⟨some 16, .mv (.t 0), none⟩,
  ⟨some 17, .lenS (.t 16), none⟩,
  ⟨some 18, .mv (.c (.i .i64 (.ofNat 0))), none⟩])
 (.block 0 (.loop (.seq (.reg [⟨some 19, .bin .lss (.t 18) (.t 17), none⟩])
 (.seq (.cond (.t 19) (.skip)
 (.exit 0))
 (.seq (.block 1 (.seq (.reg [⟨some 20, .mv (.t 18), none⟩,
  ⟨some 21, .iadS 1 (.t 16) (.t 18), none⟩,
  ⟨some 22, .ld false 1 (.t 21), none⟩,
  ⟨some 4, .mv (.t 20), none⟩,
  ⟨some 5, .mv (.t 22), none⟩])
 (.seq (.reg [⟨some 23, .mv (.c (.i .i64 (.ofNat 0))), none⟩])
 (.block 2 (.loop (.seq (.reg [⟨some 24, .bin .lss (.t 23) (.c (.i .i64 (.ofNat 4))), none⟩])
 (.seq (.cond (.t 24) (.skip)
 (.exit 2))
 (.seq (.block 3 (.seq (.reg [⟨some 25, .mv (.t 23), none⟩,
  ⟨some 6, .mv (.t 25), none⟩])
 (.reg [⟨some 26, .mv (.t 3), none⟩,
  ⟨some 27, .mv (.t 3), none⟩,
  ⟨some 28, .lenS (.t 27), none⟩,
  ⟨some 29, .bin .sub (.t 28) (.c (.i .i64 (.ofNat 1))), none⟩,
  ⟨some 30, .mv (.t 4), none⟩,
  ⟨some 31, .bin .mul (.c (.i .i64 (.ofNat 4))) (.t 30), none⟩,
  ⟨some 32, .bin .sub (.t 29) (.t 31), none⟩,
  ⟨some 33, .mv (.t 6), none⟩,
  ⟨some 34, .bin .sub (.t 32) (.t 33), none⟩,
  ⟨some 35, .mv (.t 5), none⟩,
  ⟨some 36, .mv (.t 6), none⟩,
  ⟨some 37, .bin .mul (.c (.i .i64 (.ofNat 8))) (.t 36), none⟩,
  ⟨some 38, .bin .shr (.t 35) (.t 37), none⟩,
  ⟨some 39, .conv .u8 (.t 38), none⟩,
  ⟨some 40, .iadS 1 (.t 26) (.t 34), none⟩,
  ⟨none, .st 1 (.t 40) (.t 39), none⟩])))
 (.reg [⟨some 41, .bin .add (.t 23) (.c (.i .i64 (.ofNat 1))), none⟩,
  ⟨some 23, .mv (.t 41), none⟩])))))))))
 (.reg [⟨some 42, .bin .add (.t 18) (.c (.i .i64 (.ofNat 1))), none⟩,
  ⟨some 18, .mv (.t 42), none⟩])))))))
 (.seq (.reg [⟨some 43, .mv (.t 3), none⟩,
  ⟨some 44, .bts (.t 43), none⟩,
  ⟨some 45, .call 195 [(.t 44), (.c (.s [0]))], none⟩,
  ⟨some 2, .mv (.t 45), none⟩])
 (.ret)))))), [.t 2]⟩
def d159 : FDef := ⟨18, .seq (.reg [⟨some 2, .mv (.c (.i .i64 (.ofNat 0))), none⟩])
 (.seq (.reg [⟨some 3, .mv (.c (.i .i64 (.ofNat 0))), none⟩])
 (.seq (.seq (.reg [⟨some 6, .mv (.t 0), none⟩,
  ⟨some 7, .lenS (.t 6), none⟩,
  ⟨some 8, .mv (.c (.i .i64 (.ofNat 0))), none⟩])
 (.block 0 (.loop (.seq (.reg [⟨some 9, .bin .lss (.t 8) (.t 7), none⟩])
 (.seq (.cond (.t 9) (.skip)
 (.exit 0))
 (.seq (.block 1 (.seq (.reg [⟨some 10, .iadS 1 (.t 6) (.t 8), none⟩,
  ⟨some 11, .ld false 1 (.t 10), none⟩,
  ⟨some 5, .mv (.t 11), none⟩])
 (.seq (.reg [⟨some 12, .mv (.t 5), none⟩,
  ⟨some 13, .mv (.t 3), none⟩,
  ⟨some 14, .bin .neq (.t 12) (.t 13), none⟩])
 (.cond (.t 14) (.seq (.reg [⟨some 15, .mv (.t 5), none⟩,
  ⟨some 2, .mv (.t 15), none⟩])
 (.ret))
 (.skip)))))
 (.reg [⟨some 16, .bin .add (.t 8) (.c (.i .i64 (.ofNat 1))), none⟩,
  ⟨some 8, .mv (.t 16), none⟩])))))))
 (.seq (.reg [⟨some 17, .mv (.t 3), none⟩,
  ⟨some 2, .mv (.t 17), none⟩])
 (.ret)))), [.t 2]⟩
def d160 : FDef := ⟨8, .seq (.reg [⟨some 4, .mv (.c (.i .i64 (.ofNat 0))), none⟩])
 (.seq (.reg [⟨some 5, .mv (.t 0), none⟩,
  ⟨some 6, .mv (.t 1), none⟩,
  ⟨some 7, .call 196 [(.t 5), (.t 6)], none⟩,
  ⟨some 4, .mv (.t 7), none⟩])
 (.ret)), [.t 4]⟩
def d161 : FDef := ⟨25, .seq (.reg [⟨some 2, .mv (.c (.i .i64 (.ofNat 0))), none⟩])
 (.seq (.seq (.reg [⟨some 3, .mv (.t 0), none⟩,
  ⟨some 4, .bin .geq (.t 3) (.c (.i .u64 (.ofNat 4294967296))), none⟩])
 (.cond (.t 4) (.seq (.reg [⟨some 5, .mv (.t 0), none⟩,
  ⟨some 6, .bin .shr (.t 5) (.c (.i .u64 (.ofNat 32))), none⟩,
  ⟨some 0, .mv (.t 6), none⟩])
 (.reg [⟨some 2, .mv (.c (.i .i64 (.ofNat 32))), none⟩]))
 (.skip)))
 (.seq (.seq (.reg [⟨some 7, .mv (.t 0), none⟩,
  ⟨some 8, .bin .geq (.t 7) (.c (.i .u64 (.ofNat 65536))), none⟩])
 (.cond (.t 8) (.seq (.reg [⟨some 9, .mv (.t 0), none⟩,
  ⟨some 10, .bin .shr (.t 9) (.c (.i .u64 (.ofNat 16))), none⟩,
  ⟨some 0, .mv (.t 10), none⟩])
 (.reg [⟨some 11, .mv (.t 2), none⟩,
  ⟨some 12, .bin .add (.t 11) (.c (.i .i64 (.ofNat 16))), none⟩,
  ⟨some 2, .mv (.t 12), none⟩]))
 (.skip)))
 (.seq (.seq (.reg [⟨some 13, .mv (.t 0), none⟩,
  ⟨some 14, .bin .geq (.t 13) (.c (.i .u64 (.ofNat 256))), none⟩])
 (.cond (.t 14) (.seq (.reg [⟨some 15, .mv (.t 0), none⟩,
  ⟨some 16, .bin .shr (.t 15) (.c (.i .u64 (.ofNat 8))), none⟩,
  ⟨some 0, .mv (.t 16), none⟩])
 (.reg [⟨some 17, .mv (.t 2), none⟩,
  ⟨some 18, .bin .add (.t 17) (.c (.i .i64 (.ofNat 8))), none⟩,
  ⟨some 2, .mv (.t 18), none⟩]))
 (.skip)))
 (.seq (.reg [⟨some 19, .mv (.t 2), none⟩,
  ⟨some 20, .mv (.t 0), none⟩,
  ⟨some 21, .conv .u8 (.t 20), none⟩,
  ⟨some 22, .idxT (.c (.s [0, 1, 2, 2, 3, 3, 3, 3, 4, 4, 4, 4, 4, 4, 4, 4, 5, 5, 5, 5, 5, 5, 5, 5, 5, 5, 5, 5, 5, 5, 5, 5, 6, 6, 6, 6, 6, 6, 6, 6, 6, 6, 6, 6, 6, 6, 6, 6, 6, 6, 6, 6, 6, 6, 6, 6, 6, 6, 6, 6, 6, 6, 6, 6, 7, 7, 7, 7, 7, 7, 7, 7, 7, 7, 7, 7, 7, 7, 7, 7, 7, 7, 7, 7, 7, 7, 7, 7, 7, 7, 7, 7, 7, 7, 7, 7, 7, 7, 7, 7, 7, 7, 7, 7, 7, 7, 7, 7, 7, 7, 7, 7, 7, 7, 7, 7, 7, 7, 7, 7, 7, 7, 7, 7, 7, 7, 7, 7, 8, 8, 8, 8, 8, 8, 8, 8, 8, 8, 8, 8, 8, 8, 8, 8, 8, 8, 8, 8, 8, 8, 8, 8, 8, 8, 8, 8, 8, 8, 8, 8, 8, 8, 8, 8, 8, 8, 8, 8, 8, 8, 8, 8, 8, 8, 8, 8, 8, 8, 8, 8, 8, 8, 8, 8, 8, 8, 8, 8, 8, 8, 8, 8, 8, 8, 8, 8, 8, 8, 8, 8, 8, 8, 8, 8, 8, 8, 8, 8, 8, 8, 8, 8, 8, 8, 8, 8, 8, 8, 8, 8, 8, 8, 8, 8, 8, 8, 8, 8, 8, 8, 8, 8, 8, 8, 8, 8, 8, 8, 8, 8, 8, 8, 8, 8, 8, 8, 8, 8, 8, 8, 8, 8, 8, 8, 8, 8])) (.t 21), none⟩,
  ⟨some 23, .conv .i64 (.t 22), none⟩,
  ⟨some 24, .bin .add (.t 19) (.t 23), none⟩,
  ⟨some 2, .mv (.t 24), none⟩])
 (.ret))))), [.t 2]⟩
def d162 : FDef := ⟨51, .seq (.reg [⟨some 4, .mv (.c (.i .u64 (.ofNat 0))), none⟩,
  ⟨some 5, .mv (.c (.i .u64 (.ofNat 0))), none⟩])
 (.seq (.reg [⟨some 14, .mv (.t 0), none⟩,
  ⟨some 15, .bin .and (.t 14) (.c (.i .u64 (.ofNat 4294967295))), none⟩,
  ⟨some 6, .mv (.t 15), none⟩])
 (.seq (.reg [⟨some 16, .mv (.t 0), none⟩,
  ⟨some 17, .bin .shr (.t 16) (.c (.i .u64 (.ofNat 32))), none⟩,
  ⟨some 7, .mv (.t 17), none⟩])
 (.seq (.reg [⟨some 18, .mv (.t 1), none⟩,
  ⟨some 19, .bin .and (.t 18) (.c (.i .u64 (.ofNat 4294967295))), none⟩,
  ⟨some 8, .mv (.t 19), none⟩])
 (.seq (.reg [⟨some 20, .mv (.t 1), none⟩,
  ⟨some 21, .bin .shr (.t 20) (.c (.i .u64 (.ofNat 32))), none⟩,
  ⟨some 9, .mv (.t 21), none⟩])
 (.seq (.reg [⟨some 22, .mv (.t 6), none⟩,
  ⟨some 23, .mv (.t 8), none⟩,
  ⟨some 24, .bin .mul (.t 22) (.t 23), none⟩,
  ⟨some 10, .mv (.t 24), none⟩])
 (.seq (.reg [⟨some 25, .mv (.t 7), none⟩,
  ⟨some 26, .mv (.t 8), none⟩,
  ⟨some 27, .bin .mul (.t 25) (.t 26), none⟩,
  ⟨some 28, .mv (.t 10), none⟩,
  ⟨some 29, .bin .shr (.t 28) (.c (.i .u64 (.ofNat 32))), none⟩,
  ⟨some 30, .bin .add (.t 27) (.t 29), none⟩,
  ⟨some 11, .mv (.t 30), none⟩])
 (.seq (.reg [⟨some 31, .mv (.t 11), none⟩,
  ⟨some 32, .bin .and (.t 31) (.c (.i .u64 (.ofNat 4294967295))), none⟩,
  ⟨some 12, .mv (.t 32), none⟩])
 (.seq (.reg [⟨some 33, .mv (.t 11), none⟩,
  ⟨some 34, .bin .shr (.t 33) (.c (.i .u64 (.ofNat 32))), none⟩,
  ⟨some 13, .mv (.t 34), none⟩])
 (.seq (.reg [⟨some 35, .mv (.t 12), none⟩,
  ⟨some 36, .mv (.t 6), none⟩,
  ⟨some 37, .mv (.t 9), none⟩,
  ⟨some 38, .bin .mul (.t 36) (.t 37), none⟩,
  ⟨some 39, .bin .add (.t 35) (.t 38), none⟩,
  ⟨some 12, .mv (.t 39), none⟩])
 (.seq (.reg [⟨some 40, .mv (.t 7), none⟩,
  ⟨some 41, .mv (.t 9), none⟩,
  ⟨some 42, .bin .mul (.t 40) (.t 41), none⟩,
  ⟨some 43, .mv (.t 13), none⟩,
  ⟨some 44, .bin .add (.t 42) (.t 43), none⟩,
  ⟨some 45, .mv (.t 12), none⟩,
  ⟨some 46, .bin .shr (.t 45) (.c (.i .u64 (.ofNat 32))), none⟩,
  ⟨some 47, .bin .add (.t 44) (.t 46), none⟩,
  ⟨some 4, .mv (.t 47), none⟩])
 (.seq (.reg [⟨some 48, .mv (.t 0), none⟩,
  ⟨some 49, .mv (.t 1), none⟩,
  ⟨some 50, .bin .mul (.t 48) (.t 49), none⟩,
  ⟨some 5, .mv (.t 50), none⟩])
 (.ret)))))))))))), [.t 4, .t 5]⟩
def d163 : FDef := ⟨33, .seq (.reg [⟨some 4, .box 76 4 (.t 0), none⟩,
  ⟨some 5, .box 76 4 (.t 1), none⟩,
  ⟨some 6, .box 76 4 (.t 2), none⟩,
  ⟨some 7, .box 76 4 (.t 3), none⟩,
  ⟨some 8, .new 222 12 [.b false, .s [], .b false, .s [], .b false, .s [], .b false, .s [], .b false, .s [], .b false, .s []], none⟩,
  ⟨some 9, .mv (.c (.i .i64 (.ofNat 0))), none⟩])
 (.seq (.dreg 1 [⟨⟨some 13, .ld true 4 (.t 7), none⟩, 1, [], [0], 0⟩,
  ⟨⟨some 14, .ld true 4 (.t 5), none⟩, 1, [], [0], 0⟩,
  ⟨⟨some 15, .call 137 [(.t 13), (.t 14)], none⟩, 2, [0, 1], [0], 0⟩,
  ⟨⟨some 16, .ld true 4 (.t 6), none⟩, 1, [], [0], 0⟩,
  ⟨⟨some 17, .ld true 4 (.t 4), none⟩, 1, [], [0], 0⟩,
  ⟨⟨some 18, .call 137 [(.t 16), (.t 17)], none⟩, 2, [0, 1, 2, 3, 4], [0], 0⟩,
  ⟨⟨some 19, .call 197 [(.t 15), (.t 18)], none⟩, 2, [0, 1, 2, 3, 4, 5], [0], 0⟩,
  ⟨⟨some 12, .mv (.t 19), none⟩, 0, [0, 1, 2, 3, 4, 5, 6], [0], 0⟩,
  ⟨⟨some 20, .ext 0 (.t 12), none⟩, 0, [0, 1, 2, 3, 4, 5, 6, 7], [0], 0⟩,
  ⟨⟨some 21, .ext 1 (.t 12), none⟩, 0, [0, 1, 2, 3, 4, 5, 6, 7], [0], 0⟩,
  ⟨⟨some 10, .new 76 4 [.b false, .s [], .b false, .s []], none⟩, 3, [], [0], 0⟩,
  ⟨⟨none, .st 4 (.t 10) (.t 20), none⟩, 2, [0, 1, 2, 3, 4, 5, 6, 7, 8, 10], [], 0⟩,
  ⟨⟨some 11, .mv (.t 21), none⟩, 0, [0, 1, 2, 3, 4, 5, 6, 7, 8, 9, 10, 11], [], 0⟩])
 (.seq (.seq (.reg [⟨some 22, .mv (.t 11), none⟩,
  ⟨some 23, .bin .neq (.t 22) (.c (.i .i64 (.ofNat 0))), none⟩])
 (.cond (.t 23) (.seq (.reg [⟨some 24, .build [.b false, .s [], .b false, .s [], .b false, .s [], .b false, .s [], .b false, .s [], .b false, .s []] [], none⟩,
  ⟨some 25, .mv (.t 11), none⟩,
  ⟨none, .st 12 (.t 8) (.t 24), none⟩,
  ⟨some 9, .mv (.t 25), none⟩])
 (.ret))
 (.skip)))
 (.seq (.dreg 0 [⟨⟨some 26, .ld true 4 (.t 5), none⟩, 1, [], [], 0⟩,
  ⟨⟨some 27, .ld true 4 (.t 10), none⟩, 1, [], [], 0⟩,
  ⟨⟨some 28, .ld true 4 (.t 4), none⟩, 1, [], [], 0⟩,
  ⟨⟨some 29, .call 44 [(.t 27), (.t 28)], none⟩, 2, [1, 2], [], 0⟩,
  ⟨⟨some 30, .call 137 [(.t 26), (.t 29)], none⟩, 2, [0, 1, 2, 3], [], 0⟩,
  ⟨⟨some 31, .ld true 4 (.t 10), none⟩, 1, [], [], 0⟩,
  ⟨⟨some 32, .call 183 [(.t 30), (.t 31)], none⟩, 2, [0, 1, 2, 3, 4, 5], [], 0⟩,
  ⟨⟨none, .st 12 (.t 8) (.t 32), none⟩, 2, [0, 1, 2, 3, 4, 5, 6], [], 0⟩,
  ⟨⟨some 9, .mv (.c (.i .i64 (.ofNat 0))), none⟩, 0, [0, 1, 2, 3, 4, 5, 6, 7], [], 0⟩])
 (.ret)))), [.cell true 12 8, .t 9]⟩
def d164 : FDef := ⟨26, .seq (.reg [⟨some 2, .mv (.c (.sl none 0 0 true)), none⟩])
 (.seq (.reg [⟨some 3, .mv (.c (.sl none 0 0 true)), none⟩])
 (.seq (.seq (.reg [⟨some 4, .mv (.c (.i .i64 (.ofNat 0))), none⟩])
 (.block 0 (.loop (.seq (.seq (.reg [⟨some 5, .mv (.t 4), none⟩,
  ⟨some 6, .mv (.t 0), none⟩,
  ⟨some 7, .lenS (.t 6), none⟩,
  ⟨some 8, .bin .lss (.t 5) (.t 7), none⟩])
 (.cond (.t 8) (.skip)
 (.exit 0)))
 (.seq (.block 1 (.dreg 1 [⟨⟨some 11, .mv (.t 3), none⟩, 0, [], [0], 0⟩,
  ⟨⟨some 12, .mv (.t 0), none⟩, 0, [], [0], 0⟩,
  ⟨⟨some 13, .mv (.t 4), none⟩, 0, [], [0], 0⟩,
  ⟨⟨some 14, .iadS 36 (.t 12) (.t 13), none⟩, 0, [1, 2], [0], 0⟩,
  ⟨⟨some 15, .fad 0 (.t 14), none⟩, 0, [1, 2, 3], [0], 0⟩,
  ⟨⟨some 16, .ld true 20 (.t 15), none⟩, 1, [1, 2, 3, 4], [0], 0⟩,
  ⟨⟨some 17, .mv (.t 0), none⟩, 0, [], [0], 0⟩,
  ⟨⟨some 18, .mv (.t 4), none⟩, 0, [], [0], 0⟩,
  ⟨⟨some 19, .iadS 36 (.t 17) (.t 18), none⟩, 0, [6, 7], [0], 0⟩,
  ⟨⟨some 20, .fad 20 (.t 19), none⟩, 0, [6, 7, 8], [0], 0⟩,
  ⟨⟨some 21, .ld true 16 (.t 20), none⟩, 1, [6, 7, 8, 9], [0], 0⟩,
  ⟨⟨some 22, .build [.b false, .s [], .b false, .s [], .b false, .s [], .b false, .s [], .b false, .b false, .s [], .b false, .s [], .b false, .s [], .b false, .s [], .b false, .b false, .b false, .b false, .s [], .b false, .s [], .b false, .s [], .b false, .s [], .b false, .s [], .b false, .s [], .b false, .s [], .b false, .s []] [(0, 20, (.t 16)), (20, 16, (.t 21))], none⟩, 0, [1, 2, 3, 4, 5, 6, 7, 8, 9, 10], [0], 0⟩,
  ⟨⟨some 23, .buildS 211 36 1 [.b false, .s [], .b false, .s [], .b false, .s [], .b false, .s [], .b false, .b false, .s [], .b false, .s [], .b false, .s [], .b false, .s [], .b false, .b false, .b false, .b false, .s [], .b false, .s [], .b false, .s [], .b false, .s [], .b false, .s [], .b false, .s [], .b false, .s [], .b false, .s []] [(0, 36, (.t 22))], none⟩, 3, [1, 2, 3, 4, 5, 6, 7, 8, 9, 10, 11], [0], 0⟩,
  ⟨⟨some 24, .app 211 36 408 (.t 11) (.t 23), none⟩, 2, [0, 1, 2, 3, 4, 5, 6, 7, 8, 9, 10, 11, 12], [], 0⟩,
  ⟨⟨some 3, .mv (.t 24), none⟩, 0, [0, 1, 2, 3, 4, 5, 6, 7, 8, 9, 10, 11, 12, 13], [], 0⟩]))
 (.reg [⟨some 9, .mv (.t 4), none⟩,
  ⟨some 10, .bin .add (.t 9) (.c (.i .i64 (.ofNat 1))), none⟩,
  ⟨some 4, .mv (.t 10), none⟩]))))))
 (.seq (.reg [⟨some 25, .mv (.t 3), none⟩,
  ⟨some 2, .mv (.t 25), none⟩])
 (.ret)))), [.t 2]⟩
def d165 : FDef := ⟨26, .seq (.reg [⟨some 2, .mv (.c (.sl none 0 0 true)), none⟩])
 (.seq (.reg [⟨some 3, .mv (.c (.sl none 0 0 true)), none⟩])
 (.seq (.seq (.reg [⟨some 4, .mv (.c (.i .i64 (.ofNat 0))), none⟩])
 (.block 0 (.loop (.seq (.seq (.reg [⟨some 5, .mv (.t 4), none⟩,
  ⟨some 6, .mv (.t 0), none⟩,
  ⟨some 7, .lenS (.t 6), none⟩,
  ⟨some 8, .bin .lss (.t 5) (.t 7), none⟩])
 (.cond (.t 8) (.skip)
 (.exit 0)))
 (.seq (.block 1 (.dreg 1 [⟨⟨some 11, .mv (.t 3), none⟩, 0, [], [0], 0⟩,
  ⟨⟨some 12, .mv (.t 0), none⟩, 0, [], [0], 0⟩,
  ⟨⟨some 13, .mv (.t 4), none⟩, 0, [], [0], 0⟩,
  ⟨⟨some 14, .iadS 36 (.t 12) (.t 13), none⟩, 0, [1, 2], [0], 0⟩,
  ⟨⟨some 15, .fad 0 (.t 14), none⟩, 0, [1, 2, 3], [0], 0⟩,
  ⟨⟨some 16, .ld true 20 (.t 15), none⟩, 1, [1, 2, 3, 4], [0], 0⟩,
  ⟨⟨some 17, .mv (.t 0), none⟩, 0, [], [0], 0⟩,
  ⟨⟨some 18, .mv (.t 4), none⟩, 0, [], [0], 0⟩,
  ⟨⟨some 19, .iadS 36 (.t 17) (.t 18), none⟩, 0, [6, 7], [0], 0⟩,
  ⟨⟨some 20, .fad 20 (.t 19), none⟩, 0, [6, 7, 8], [0], 0⟩,
  ⟨⟨some 21, .ld true 16 (.t 20), none⟩, 1, [6, 7, 8, 9], [0], 0⟩,
  ⟨⟨some 22, .build [.b false, .s [], .b false, .s [], .b false, .s [], .b false, .s [], .b false, .b false, .s [], .b false, .s [], .b false, .s [], .b false, .s [], .b false, .b false, .b false, .b false, .s [], .b false, .s [], .b false, .s [], .b false, .s [], .b false, .s [], .b false, .s [], .b false, .s [], .b false, .s []] [(0, 20, (.t 16)), (20, 16, (.t 21))], none⟩, 0, [1, 2, 3, 4, 5, 6, 7, 8, 9, 10], [0], 0⟩,
  ⟨⟨some 23, .buildS 84 36 1 [.b false, .s [], .b false, .s [], .b false, .s [], .b false, .s [], .b false, .b false, .s [], .b false, .s [], .b false, .s [], .b false, .s [], .b false, .b false, .b false, .b false, .s [], .b false, .s [], .b false, .s [], .b false, .s [], .b false, .s [], .b false, .s [], .b false, .s [], .b false, .s []] [(0, 36, (.t 22))], none⟩, 3, [1, 2, 3, 4, 5, 6, 7, 8, 9, 10, 11], [0], 0⟩,
  ⟨⟨some 24, .app 84 36 408 (.t 11) (.t 23), none⟩, 2, [0, 1, 2, 3, 4, 5, 6, 7, 8, 9, 10, 11, 12], [], 0⟩,
  ⟨⟨some 3, .mv (.t 24), none⟩, 0, [0, 1, 2, 3, 4, 5, 6, 7, 8, 9, 10, 11, 12, 13], [], 0⟩]))
 (.reg [⟨some 9, .mv (.t 4), none⟩,
  ⟨some 10, .bin .add (.t 9) (.c (.i .i64 (.ofNat 1))), none⟩,
  ⟨some 4, .mv (.t 10), none⟩]))))))
 (.seq (.reg [⟨some 25, .mv (.t 3), none⟩,
  ⟨some 2, .mv (.t 25), none⟩])
 (.ret)))), [.t 2]⟩
def d166 : FDef := ⟨22, .seq (.reg [⟨some 8, .mv (.t 0), none⟩,
  ⟨some 9, .mv (.t 1), none⟩,
  ⟨some 10, .lenS (.t 9), none⟩,
  ⟨some 11, .call 90 [(.t 8), (.t 10)], none⟩])
 (.seq (.reg [⟨some 12, .mv (.t 1), none⟩,
  ⟨some 13, .lenS (.t 12), none⟩,
  ⟨some 14, .mv (.c (.i .i64 (.ofNat 0))), none⟩])
 (.block 0 (.loop (.seq (.reg [⟨some 15, .bin .lss (.t 14) (.t 13), none⟩])
 (.seq (.cond (.t 15) (.skip)
 (.exit 0))
 (.seq (.block 1 (.seq (.reg [⟨some 16, .iadS 36 (.t 12) (.t 14), none⟩,
  ⟨some 17, .ld true 36 (.t 16), none⟩,
  ⟨some 7, .new 84 36 [.b false, .s [], .b false, .s [], .b false, .s [], .b false, .s [], .b false, .b false, .s [], .b false, .s [], .b false, .s [], .b false, .s [], .b false, .b false, .b false, .b false, .s [], .b false, .s [], .b false, .s [], .b false, .s [], .b false, .s [], .b false, .s [], .b false, .s [], .b false, .s []], none⟩,
  ⟨none, .st 36 (.t 7) (.t 17), none⟩])
 (.reg [⟨some 18, .mv (.t 2), none⟩,
  ⟨some 19, .ld true 36 (.t 7), none⟩,
  ⟨some 20, .callV (.t 18) [(.t 19)], none⟩])))
 (.reg [⟨some 21, .bin .add (.t 14) (.c (.i .i64 (.ofNat 1))), none⟩,
  ⟨some 14, .mv (.t 21), none⟩]))))))), []⟩
def d167 : FDef := ⟨11, .seq (.reg [⟨some 2, .box 84 36 (.t 0), none⟩])
 (.seq (.reg [⟨some 3, .ld false 1 (.t 1), none⟩,
  ⟨some 4, .fad 0 (.t 2), none⟩,
  ⟨some 5, .ld true 20 (.t 4), none⟩,
  ⟨some 6, .call 168 [(.t 3), (.t 5)], none⟩])
 (.reg [⟨some 7, .ld false 1 (.t 1), none⟩,
  ⟨some 8, .fad 20 (.t 2), none⟩,
  ⟨some 9, .ld true 16 (.t 8), none⟩,
  ⟨some 10, .call 169 [(.t 7), (.t 9)], none⟩])), []⟩
def d168 : FDef := ⟨20, .seq (.reg [⟨some 3, .box 80 20 (.t 1), none⟩])
 (.seq (.reg [⟨some 4, .mv (.t 0), none⟩,
  ⟨some 5, .fad 0 (.t 3), none⟩,
  ⟨some 6, .ld true 9 (.t 5), none⟩,
  ⟨some 7, .call 198 [(.t 4), (.t 6)], none⟩])
 (.seq (.reg [⟨some 8, .mv (.t 0), none⟩,
  ⟨some 9, .fad 9 (.t 3), none⟩,
  ⟨some 10, .ld true 9 (.t 9), none⟩,
  ⟨some 11, .call 198 [(.t 8), (.t 10)], none⟩])
 (.seq (.reg [⟨some 12, .mv (.t 0), none⟩,
  ⟨some 13, .fad 18 (.t 3), none⟩,
  ⟨some 14, .ld false 1 (.t 13), none⟩,
  ⟨some 15, .call 199 [(.t 12), (.t 14)], none⟩])
 (.reg [⟨some 16, .mv (.t 0), none⟩,
  ⟨some 17, .fad 19 (.t 3), none⟩,
  ⟨some 18, .ld false 1 (.t 17), none⟩,
  ⟨some 19, .call 199 [(.t 16), (.t 18)], none⟩])))), []⟩
def d169 : FDef := ⟨15, .seq (.reg [⟨some 3, .box 82 16 (.t 1), none⟩])
 (.reg [⟨some 4, .mv (.t 0), none⟩,
  ⟨some 5, .fad 0 (.t 3), none⟩,
  ⟨some 6, .ld true 4 (.t 5), none⟩,
  ⟨some 7, .fad 4 (.t 3), none⟩,
  ⟨some 8, .ld true 4 (.t 7), none⟩,
  ⟨some 9, .fad 8 (.t 3), none⟩,
  ⟨some 10, .ld true 4 (.t 9), none⟩,
  ⟨some 11, .fad 12 (.t 3), none⟩,
  ⟨some 12, .ld true 4 (.t 11), none⟩,
  ⟨some 13, .buildS 76 4 4 [.b false, .s [], .b false, .s []] [(0, 4, (.t 6)), (4, 4, (.t 8)), (8, 4, (.t 10)), (12, 4, (.t 12))], none⟩,
  ⟨some 14, .call 200 [(.t 4), (.t 13)], none⟩]), []⟩
def d170 : FDef := ⟨31, .seq (.reg [⟨some 1, .box 78 9 (.t 0), none⟩,
  ⟨some 2, .mv (.c (.i .i64 (.ofNat 0))), none⟩])
 (.seq (.seq (.reg [⟨some 5, .fad 0 (.t 1), none⟩,
  ⟨some 6, .ld true 4 (.t 5), none⟩,
  ⟨some 7, .call 201 [(.t 6)], none⟩,
  ⟨some 8, .bin .neq (.t 7) (.c (.i .i64 (.ofNat 0))), none⟩,
  ⟨some 9, .mv (.t 8), none⟩,
  ⟨some 10, .fad 4 (.t 1), (some (9, false))⟩,
  ⟨some 11, .ld true 4 (.t 10), (some (9, false))⟩,
  ⟨some 12, .call 201 [(.t 11)], (some (9, false))⟩,
  ⟨some 13, .bin .neq (.t 12) (.c (.i .i64 (.ofNat 0))), (some (9, false))⟩,
  ⟨some 14, .pick (.t 9) (.c (.b true)) (.t 13), none⟩])
 (.cond (.t 14) (.seq (.reg [⟨some 2, .mv (.c (.i .i64 (.ofNat 5))), none⟩])
 (.ret))
 (.skip)))
 (.seq (.seq (.reg [⟨some 15, .fad 4 (.t 1), none⟩,
  ⟨some 16, .ld true 4 (.t 15), none⟩,
  ⟨some 17, .call 141 [(.t 16)], none⟩])
 (.block 0 (.seq (.reg [⟨some 19, .bin .eql (.t 17) (.c (.i .i64 (.negSucc 0))), none⟩,
  ⟨some 18, .mv (.t 19), none⟩])
 (.cond (.t 18) (.seq (.reg [⟨some 2, .mv (.c (.i .i64 (.ofNat 5))), none⟩])
 (.ret))
 (.seq (.reg [⟨some 21, .bin .eql (.t 17) (.c (.i .i64 (.ofNat 0))), none⟩,
  ⟨some 20, .mv (.t 21), none⟩])
 (.cond (.t 20) (.seq (.seq (.reg [⟨some 22, .fad 8 (.t 1), none⟩,
  ⟨some 23, .ld false 1 (.t 22), none⟩])
 (.cond (.t 23) (.seq (.reg [⟨some 2, .mv (.c (.i .i64 (.ofNat 5))), none⟩])
 (.ret))
 (.skip)))
 (.seq (.reg [⟨some 2, .mv (.c (.i .i64 (.ofNat 0))), none⟩])
 (.ret)))
 (.skip)))))))
 (.seq (.seq (.reg [⟨some 25, .fad 4 (.t 1), none⟩,
  ⟨some 26, .ld true 4 (.t 25), none⟩,
  ⟨some 27, .call 202 [(.t 26)], none⟩,
  ⟨some 24, .mv (.t 27), none⟩,
  ⟨some 28, .ext 0 (.t 24), none⟩,
  ⟨some 29, .ext 1 (.t 24), none⟩,
  ⟨some 3, .new 76 4 [.b false, .s [], .b false, .s []], none⟩,
  ⟨none, .st 4 (.t 3) (.t 28), none⟩,
  ⟨some 4, .mv (.t 29), none⟩])
 (.seq (.reg [⟨some 30, .mv (.t 4), none⟩])
 (.cond (.t 30) (.seq (.reg [⟨some 2, .mv (.c (.i .i64 (.ofNat 5))), none⟩])
 (.ret))
 (.skip))))
 (.seq (.reg [⟨some 2, .mv (.c (.i .i64 (.ofNat 0))), none⟩])
 (.ret))))), [.t 2]⟩
def d171 : FDef := ⟨23, .seq (.reg [⟨some 2, .box 266 10 (.t 0), none⟩,
  ⟨some 3, .box 266 10 (.t 1), none⟩,
  ⟨some 4, .mv (.c (.i .i64 (.ofNat 0))), none⟩])
 (.seq (.seq (.reg [⟨some 6, .fad 0 (.t 2), none⟩,
  ⟨some 7, .ld true 9 (.t 6), none⟩,
  ⟨some 8, .fad 0 (.t 3), none⟩,
  ⟨some 9, .ld true 9 (.t 8), none⟩,
  ⟨some 10, .call 97 [(.t 7), (.t 9)], none⟩,
  ⟨some 5, .mv (.t 10), none⟩])
 (.seq (.reg [⟨some 11, .mv (.t 5), none⟩,
  ⟨some 12, .bin .neq (.t 11) (.c (.i .i64 (.ofNat 0))), none⟩])
 (.cond (.t 12) (.seq (.reg [⟨some 13, .mv (.t 5), none⟩,
  ⟨some 4, .mv (.t 13), none⟩])
 (.ret))
 (.skip))))
 (.seq (.block 0 (.seq (.reg [⟨some 15, .fad 9 (.t 2), none⟩,
  ⟨some 16, .ld false 1 (.t 15), none⟩,
  ⟨some 17, .fad 9 (.t 3), none⟩,
  ⟨some 18, .ld false 1 (.t 17), none⟩,
  ⟨some 19, .eqB false (.t 16) (.t 18), none⟩,
  ⟨some 14, .mv (.t 19), none⟩])
 (.cond (.t 14) (.seq (.reg [⟨some 4, .mv (.c (.i .i64 (.ofNat 0))), none⟩])
 (.ret))
 (.seq (.reg [⟨some 21, .fad 9 (.t 3), none⟩,
  ⟨some 22, .ld false 1 (.t 21), none⟩,
  ⟨some 20, .mv (.t 22), none⟩])
 (.cond (.t 20) (.seq (.reg [⟨some 4, .mv (.c (.i .i64 (.negSucc 0))), none⟩])
 (.ret))
 (.skip))))))
 (.seq (.reg [⟨some 4, .mv (.c (.i .i64 (.ofNat 1))), none⟩])
 (.ret)))), [.t 4]⟩
def d172 : FDef := ⟨8, .seq (.reg [⟨some 1, .box 80 20 (.t 0), none⟩,
  ⟨some 2, .new 266 10 [.b false, .s [], .b false, .s [], .b false, .s [], .b false, .s [], .b false, .b false], none⟩])
 (.seq (.reg [⟨some 3, .fad 0 (.t 1), none⟩,
  ⟨some 4, .ld true 9 (.t 3), none⟩,
  ⟨some 5, .fad 18 (.t 1), none⟩,
  ⟨some 6, .ld false 1 (.t 5), none⟩,
  ⟨some 7, .build [.b false, .s [], .b false, .s [], .b false, .s [], .b false, .s [], .b false, .b false] [(0, 9, (.t 4)), (9, 1, (.t 6))], none⟩,
  ⟨none, .st 10 (.t 2) (.t 7), none⟩])
 (.ret)), [.cell true 10 2]⟩
def d173 : FDef := ⟨9, .seq (.reg [⟨some 1, .box 80 20 (.t 0), none⟩,
  ⟨some 2, .new 266 10 [.b false, .s [], .b false, .s [], .b false, .s [], .b false, .s [], .b false, .b false], none⟩])
 (.seq (.reg [⟨some 3, .fad 9 (.t 1), none⟩,
  ⟨some 4, .ld true 9 (.t 3), none⟩,
  ⟨some 5, .fad 19 (.t 1), none⟩,
  ⟨some 6, .ld false 1 (.t 5), none⟩,
  ⟨some 7, .un .not (.t 6), none⟩,
  ⟨some 8, .build [.b false, .s [], .b false, .s [], .b false, .s [], .b false, .s [], .b false, .b false] [(0, 9, (.t 4)), (9, 1, (.t 7))], none⟩,
  ⟨none, .st 10 (.t 2) (.t 8), none⟩])
 (.ret)), [.cell true 10 2]⟩
def d174 : FDef := ⟨9, .seq (.reg [⟨some 2, .mv (.c (.sl none 0 0 true)), none⟩])
 (.seq (.reg [⟨some 4, .mv (.t 0), none⟩,
  ⟨some 5, .call 203 [(.t 4)], none⟩,
  ⟨some 3, .mv (.t 5), none⟩])
 (.seq (.reg [⟨some 6, .mv (.t 3), none⟩,
  ⟨some 7, .call 204 [(.t 6), (.c (.fn (.func 205) [] []))], none⟩])
 (.seq (.reg [⟨some 8, .mv (.t 3), none⟩,
  ⟨some 2, .mv (.t 8), none⟩])
 (.ret)))), [.t 2]⟩
def d175 : FDef := ⟨54, .seq (.reg [⟨some 2, .mv (.c (.sl none 0 0 true)), none⟩])
 (.seq (.reg [⟨some 3, .new 164 1 [.sl none 0 0 true], none⟩])
 (.seq (.reg [⟨some 7, .mkF (.func 207) [] [(.t 3)], none⟩,
  ⟨some 4, .mv (.t 7), none⟩])
 (.seq (.seq (.reg [⟨some 8, .mv (.t 0), none⟩,
  ⟨some 9, .lenS (.t 8), none⟩,
  ⟨some 10, .mv (.c (.i .i64 (.ofNat 0))), none⟩])
 (.block 0 (.loop (.seq (.reg [⟨some 11, .bin .lss (.t 10) (.t 9), none⟩])
 (.seq (.cond (.t 11) (.skip)
 (.exit 0))
 (.seq (.block 1 (.seq (.reg [⟨some 12, .iadS 36 (.t 8) (.t 10), none⟩,
  ⟨some 13, .ld true 36 (.t 12), none⟩,
  ⟨some 6, .new 211 36 [.b false, .s [], .b false, .s [], .b false, .s [], .b false, .s [], .b false, .b false, .s [], .b false, .s [], .b false, .s [], .b false, .s [], .b false, .b false, .b false, .b false, .s [], .b false, .s [], .b false, .s [], .b false, .s [], .b false, .s [], .b false, .s [], .b false, .s [], .b false, .s []], none⟩,
  ⟨none, .st 36 (.t 6) (.t 13), none⟩])
 (.seq (.seq (.reg [⟨some 14, .fad 0 (.t 6), none⟩,
  ⟨some 15, .fad 18 (.t 14), none⟩,
  ⟨some 16, .ld false 1 (.t 15), none⟩,
  ⟨some 17, .un .not (.t 16), none⟩])
 (.cond (.t 17) (.reg [⟨some 18, .mv (.t 4), none⟩,
  ⟨some 19, .fad 0 (.t 6), none⟩,
  ⟨some 20, .fad 0 (.t 19), none⟩,
  ⟨some 21, .ld true 9 (.t 20), none⟩,
  ⟨some 22, .fad 20 (.t 6), none⟩,
  ⟨some 23, .ld true 16 (.t 22), none⟩,
  ⟨some 24, .callV (.t 18) [(.t 21), (.t 23)], none⟩])
 (.skip)))
 (.seq (.seq (.reg [⟨some 25, .fad 0 (.t 6), none⟩,
  ⟨some 26, .ld true 20 (.t 25), none⟩,
  ⟨some 27, .call 176 [(.t 26)], none⟩])
 (.cond (.t 27) (.exit 1)
 (.skip)))
 (.seq (.reg [⟨some 28, .ld false 1 (.t 3), none⟩,
  ⟨some 29, .fad 0 (.t 6), none⟩,
  ⟨some 30, .fad 0 (.t 29), none⟩,
  ⟨some 31, .ld true 9 (.t 30), none⟩,
  ⟨some 32, .fad 0 (.t 6), none⟩,
  ⟨some 33, .fad 9 (.t 32), none⟩,
  ⟨some 34, .ld true 9 (.t 33), none⟩,
  ⟨some 35, .build [.b false, .s [], .b false, .s [], .b false, .s [], .b false, .s [], .b false, .b false, .s [], .b false, .s [], .b false, .s [], .b false, .s [], .b false, .b false, .b false] [(0, 9, (.t 31)), (9, 9, (.t 34)), (18, 1, (.c (.b true))), (19, 1, (.c (.b true)))], none⟩,
  ⟨some 36, .fad 20 (.t 6), none⟩,
  ⟨some 37, .ld true 16 (.t 36), none⟩,
  ⟨some 38, .build [.b false, .s [], .b false, .s [], .b false, .s [], .b false, .s [], .b false, .b false, .s [], .b false, .s [], .b false, .s [], .b false, .s [], .b false, .b false, .b false, .b false, .s [], .b false, .s [], .b false, .s [], .b false, .s [], .b false, .s [], .b false, .s [], .b false, .s [], .b false, .s []] [(0, 20, (.t 35)), (20, 16, (.t 37))], none⟩,
  ⟨some 39, .buildS 211 36 1 [.b false, .s [], .b false, .s [], .b false, .s [], .b false, .s [], .b false, .b false, .s [], .b false, .s [], .b false, .s [], .b false, .s [], .b false, .b false, .b false, .b false, .s [], .b false, .s [], .b false, .s [], .b false, .s [], .b false, .s [], .b false, .s [], .b false, .s [], .b false, .s []] [(0, 36, (.t 38))], none⟩,
  ⟨some 40, .app 211 36 408 (.t 28) (.t 39), none⟩,
  ⟨none, .st 1 (.t 3) (.t 40), none⟩])
 (.seq (.reg [⟨some 41, .fad 0 (.t 6), none⟩,
  ⟨some 42, .fad 19 (.t 41), none⟩,
  ⟨some 43, .ld false 1 (.t 42), none⟩,
  ⟨some 44, .un .not (.t 43), none⟩])
 (.cond (.t 44) (.reg [⟨some 45, .mv (.t 4), none⟩,
  ⟨some 46, .fad 0 (.t 6), none⟩,
  ⟨some 47, .fad 9 (.t 46), none⟩,
  ⟨some 48, .ld true 9 (.t 47), none⟩,
  ⟨some 49, .fad 20 (.t 6), none⟩,
  ⟨some 50, .ld true 16 (.t 49), none⟩,
  ⟨some 51, .callV (.t 45) [(.t 48), (.t 50)], none⟩])
 (.skip))))))))
 (.reg [⟨some 52, .bin .add (.t 10) (.c (.i .i64 (.ofNat 1))), none⟩,
  ⟨some 10, .mv (.t 52), none⟩])))))))
 (.seq (.reg [⟨some 53, .ld false 1 (.t 3), none⟩,
  ⟨some 2, .mv (.t 53), none⟩])
 (.ret))))), [.t 2]⟩
def d176 : FDef := ⟨8, .seq (.reg [⟨some 1, .box 80 20 (.t 0), none⟩,
  ⟨some 2, .mv (.c (.b false)), none⟩])
 (.seq (.reg [⟨some 3, .fad 0 (.t 1), none⟩,
  ⟨some 4, .ld true 9 (.t 3), none⟩,
  ⟨some 5, .fad 9 (.t 1), none⟩,
  ⟨some 6, .ld true 9 (.t 5), none⟩,
  ⟨some 7, .eqC false [.b, .s, .b, .s, .b, .s, .b, .s, .b] (.t 4) (.t 6), none⟩,
  ⟨some 2, .mv (.t 7), none⟩])
 (.ret)), [.t 2]⟩
def d177 : FDef := ⟨31, .seq (.reg [⟨some 3, .box 78 9 (.t 1), none⟩,
  ⟨some 4, .mv (.c (.b false)), none⟩])
 (.seq (.reg [⟨some 6, .mv (.t 0), none⟩,
  ⟨some 7, .lenS (.t 6), none⟩,
  ⟨some 5, .mv (.t 7), none⟩])
 (.seq (.dreg 0 [⟨⟨some 8, .mv (.t 5), none⟩, 0, [], [], 0⟩,
  ⟨⟨some 9, .bin .gtr (.t 8) (.c (.i .i64 (.ofNat 0))), none⟩, 0, [0], [], 0⟩,
  ⟨⟨some 10, .mv (.t 9), none⟩, 0, [0, 1], [], 0⟩,
  ⟨⟨some 11, .mv (.t 0), (some (10, true))⟩, 0, [0, 1, 2], [], 0⟩,
  ⟨⟨some 12, .mv (.t 5), (some (10, true))⟩, 0, [0, 1, 2], [], 0⟩,
  ⟨⟨some 13, .bin .sub (.t 12) (.c (.i .i64 (.ofNat 1))), (some (10, true))⟩, 0, [0, 1, 2, 4], [], 0⟩,
  ⟨⟨some 14, .iadS 36 (.t 11) (.t 13), (some (10, true))⟩, 0, [0, 1, 2, 3, 4, 5], [], 0⟩,
  ⟨⟨some 15, .fad 0 (.t 14), (some (10, true))⟩, 0, [0, 1, 2, 3, 4, 5, 6], [], 0⟩,
  ⟨⟨some 16, .fad 9 (.t 15), (some (10, true))⟩, 0, [0, 1, 2, 3, 4, 5, 6, 7], [], 0⟩,
  ⟨⟨some 17, .ld true 9 (.t 16), (some (10, true))⟩, 1, [0, 1, 2, 3, 4, 5, 6, 7, 8], [], 0⟩,
  ⟨⟨some 18, .ld true 9 (.t 3), (some (10, true))⟩, 1, [0, 1, 2], [], 0⟩,
  ⟨⟨some 19, .eqC false [.b, .s, .b, .s, .b, .s, .b, .s, .b] (.t 17) (.t 18), (some (10, true))⟩, 0, [0, 1, 2, 3, 4, 5, 6, 7, 8, 9, 10], [], 0⟩,
  ⟨⟨some 20, .pick (.t 10) (.t 19) (.c (.b false)), none⟩, 0, [0, 1, 2, 3, 4, 5, 6, 7, 8, 9, 10, 11], [], 0⟩,
  ⟨⟨some 21, .mv (.t 20), none⟩, 0, [0, 1, 2, 3, 4, 5, 6, 7, 8, 9, 10, 11, 12], [], 0⟩,
  ⟨⟨some 22, .mv (.t 0), (some (21, true))⟩, 0, [0, 1, 2, 3, 4, 5, 6, 7, 8, 9, 10, 11, 12, 13], [], 0⟩,
  ⟨⟨some 23, .mv (.t 5), (some (21, true))⟩, 0, [0, 1, 2, 3, 4, 5, 6, 7, 8, 9, 10, 11, 12, 13], [], 0⟩,
  ⟨⟨some 24, .bin .sub (.t 23) (.c (.i .i64 (.ofNat 1))), (some (21, true))⟩, 0, [0, 1, 2, 3, 4, 5, 6, 7, 8, 9, 10, 11, 12, 13, 15], [], 0⟩,
  ⟨⟨some 25, .iadS 36 (.t 22) (.t 24), (some (21, true))⟩, 0, [0, 1, 2, 3, 4, 5, 6, 7, 8, 9, 10, 11, 12, 13, 14, 15, 16], [], 0⟩,
  ⟨⟨some 26, .fad 0 (.t 25), (some (21, true))⟩, 0, [0, 1, 2, 3, 4, 5, 6, 7, 8, 9, 10, 11, 12, 13, 14, 15, 16, 17], [], 0⟩,
  ⟨⟨some 27, .fad 19 (.t 26), (some (21, true))⟩, 0, [0, 1, 2, 3, 4, 5, 6, 7, 8, 9, 10, 11, 12, 13, 14, 15, 16, 17, 18], [], 0⟩,
  ⟨⟨some 28, .ld false 1 (.t 27), (some (21, true))⟩, 1, [0, 1, 2, 3, 4, 5, 6, 7, 8, 9, 10, 11, 12, 13, 14, 15, 16, 17, 18, 19], [], 0⟩,
  ⟨⟨some 29, .un .not (.t 28), (some (21, true))⟩, 0, [0, 1, 2, 3, 4, 5, 6, 7, 8, 9, 10, 11, 12, 13, 14, 15, 16, 17, 18, 19, 20], [], 0⟩,
  ⟨⟨some 30, .pick (.t 21) (.t 29) (.c (.b false)), none⟩, 0, [0, 1, 2, 3, 4, 5, 6, 7, 8, 9, 10, 11, 12, 13, 14, 15, 16, 17, 18, 19, 20, 21], [], 0⟩,
  ⟨⟨some 4, .mv (.t 30), none⟩, 0, [0, 1, 2, 3, 4, 5, 6, 7, 8, 9, 10, 11, 12, 13, 14, 15, 16, 17, 18, 19, 20, 21, 22], [], 0⟩])
 (.ret))), [.t 4]⟩
def d178 : FDef := ⟨32, .seq (.reg [⟨some 6, .mv (.c (.b false)), none⟩])
 (.seq (.seq (.reg [⟨some 10, .mv (.t 0), none⟩,
  ⟨some 11, .lenS (.t 10), none⟩,
  ⟨some 12, .mv (.t 1), none⟩,
  ⟨some 13, .lenS (.t 12), none⟩,
  ⟨some 14, .bin .neq (.t 11) (.t 13), none⟩])
 (.cond (.t 14) (.seq (.reg [⟨some 6, .mv (.c (.b false)), none⟩])
 (.ret))
 (.skip)))
 (.seq (.seq (.reg [⟨some 15, .mv (.t 0), none⟩,
  ⟨some 16, .lenS (.t 15), none⟩,
  ⟨some 17, .mv (.c (.i .i64 (.ofNat 0))), none⟩])
 (.block 0 (.loop (.seq (.reg [⟨some 18, .bin .lss (.t 17) (.t 16), none⟩])
 (.seq (.cond (.t 18) (.skip)
 (.exit 0))
 (.seq (.block 1 (.seq (.reg [⟨some 19, .mv (.t 17), none⟩,
  ⟨some 20, .iadS 36 (.t 15) (.t 17), none⟩,
  ⟨some 21, .ld true 36 (.t 20), none⟩,
  ⟨some 8, .new 211 36 [.b false, .s [], .b false, .s [], .b false, .s [], .b false, .s [], .b false, .b false, .s [], .b false, .s [], .b false, .s [], .b false, .s [], .b false, .b false, .b false, .b false, .s [], .b false, .s [], .b false, .s [], .b false, .s [], .b false, .s [], .b false, .s [], .b false, .s [], .b false, .s []], none⟩,
  ⟨some 7, .mv (.t 19), none⟩,
  ⟨none, .st 36 (.t 8) (.t 21), none⟩])
 (.seq (.reg [⟨some 22, .mv (.t 1), none⟩,
  ⟨some 23, .mv (.t 7), none⟩,
  ⟨some 24, .iadS 36 (.t 22) (.t 23), none⟩,
  ⟨some 25, .ld true 36 (.t 24), none⟩,
  ⟨some 9, .new 211 36 [.b false, .s [], .b false, .s [], .b false, .s [], .b false, .s [], .b false, .b false, .s [], .b false, .s [], .b false, .s [], .b false, .s [], .b false, .b false, .b false, .b false, .s [], .b false, .s [], .b false, .s [], .b false, .s [], .b false, .s [], .b false, .s [], .b false, .s [], .b false, .s []], none⟩,
  ⟨none, .st 36 (.t 9) (.t 25), none⟩])
 (.seq (.reg [⟨some 26, .mv (.t 2), none⟩,
  ⟨some 27, .ld true 36 (.t 8), none⟩,
  ⟨some 28, .ld true 36 (.t 9), none⟩,
  ⟨some 29, .callV (.t 26) [(.t 27), (.t 28)], none⟩,
  ⟨some 30, .un .not (.t 29), none⟩])
 (.cond (.t 30) (.seq (.reg [⟨some 6, .mv (.c (.b false)), none⟩])
 (.ret))
 (.skip))))))
 (.reg [⟨some 31, .bin .add (.t 17) (.c (.i .i64 (.ofNat 1))), none⟩,
  ⟨some 17, .mv (.t 31), none⟩])))))))
 (.seq (.reg [⟨some 6, .mv (.c (.b true)), none⟩])
 (.ret)))), [.t 6]⟩
def d179 : FDef := ⟨19, .seq (.reg [⟨some 3, .box 211 36 (.t 0), none⟩,
  ⟨some 4, .box 211 36 (.t 1), none⟩,
  ⟨some 5, .mv (.c (.b false)), none⟩])
 (.seq (.reg [⟨some 6, .fad 0 (.t 3), none⟩,
  ⟨some 7, .ld true 20 (.t 6), none⟩,
  ⟨some 8, .fad 0 (.t 4), none⟩,
  ⟨some 9, .ld true 20 (.t 8), none⟩,
  ⟨some 10, .eqC false [.b, .s, .b, .s, .b, .s, .b, .s, .b, .b, .s, .b, .s, .b, .s, .b, .s, .b, .b, .b] (.t 7) (.t 9), none⟩,
  ⟨some 11, .mv (.t 10), none⟩,
  ⟨some 12, .ld false 1 (.t 2), (some (11, true))⟩,
  ⟨some 13, .fad 20 (.t 3), (some (11, true))⟩,
  ⟨some 14, .ld true 16 (.t 13), (some (11, true))⟩,
  ⟨some 15, .fad 20 (.t 4), (some (11, true))⟩,
  ⟨some 16, .ld true 16 (.t 15), (some (11, true))⟩,
  ⟨some 17, .callI (.t 12) "Equal" [(.t 14), (.t 16)], (some (11, true))⟩,
  ⟨some 18, .pick (.t 11) (.t 17) (.c (.b false)), none⟩,
  ⟨some 5, .mv (.t 18), none⟩])
 (.ret)), [.t 5]⟩
def d180 : FDef := ⟨17, .seq (.reg [⟨some 2, .box 222 12 (.t 0), none⟩,
  ⟨some 3, .box 76 4 (.t 1), none⟩,
  ⟨some 4, .new 76 4 [.b false, .s [], .b false, .s []], none⟩])
 (.seq (.dreg 0 [⟨⟨some 5, .fad 0 (.t 2), none⟩, 0, [], [], 0⟩,
  ⟨⟨some 6, .ld true 4 (.t 5), none⟩, 1, [0], [], 0⟩,
  ⟨⟨some 7, .ld true 4 (.t 3), none⟩, 1, [], [], 0⟩,
  ⟨⟨some 8, .fad 4 (.t 2), none⟩, 0, [], [], 0⟩,
  ⟨⟨some 9, .ld true 4 (.t 8), none⟩, 1, [3], [], 0⟩,
  ⟨⟨some 10, .ld true 4 (.t 3), none⟩, 1, [], [], 0⟩,
  ⟨⟨some 11, .fad 8 (.t 2), none⟩, 0, [], [], 0⟩,
  ⟨⟨some 12, .ld true 4 (.t 11), none⟩, 1, [6], [], 0⟩,
  ⟨⟨some 13, .call 44 [(.t 10), (.t 12)], none⟩, 2, [5, 6, 7], [], 0⟩,
  ⟨⟨some 14, .call 42 [(.t 9), (.t 13)], none⟩, 2, [3, 4, 5, 6, 7, 8], [], 0⟩,
  ⟨⟨some 15, .call 44 [(.t 7), (.t 14)], none⟩, 2, [2, 3, 4, 5, 6, 7, 8, 9], [], 0⟩,
  ⟨⟨some 16, .call 42 [(.t 6), (.t 15)], none⟩, 2, [0, 1, 2, 3, 4, 5, 6, 7, 8, 9, 10], [], 0⟩,
  ⟨⟨none, .st 4 (.t 4) (.t 16), none⟩, 2, [0, 1, 2, 3, 4, 5, 6, 7, 8, 9, 10, 11], [], 0⟩])
 (.ret)), [.cell true 4 4]⟩
def d181 : FDef := ⟨15, .seq (.reg [⟨some 2, .box 222 12 (.t 0), none⟩,
  ⟨some 3, .box 76 4 (.t 1), none⟩,
  ⟨some 4, .new 76 4 [.b false, .s [], .b false, .s []], none⟩])
 (.seq (.dreg 0 [⟨⟨some 5, .fad 4 (.t 2), none⟩, 0, [], [], 0⟩,
  ⟨⟨some 6, .ld true 4 (.t 5), none⟩, 1, [0], [], 0⟩,
  ⟨⟨some 7, .fad 8 (.t 2), none⟩, 0, [], [], 0⟩,
  ⟨⟨some 8, .ld true 4 (.t 7), none⟩, 1, [2], [], 0⟩,
  ⟨⟨some 9, .fad 8 (.t 2), none⟩, 0, [], [], 0⟩,
  ⟨⟨some 10, .ld true 4 (.t 9), none⟩, 1, [4], [], 0⟩,
  ⟨⟨some 11, .call 42 [(.t 8), (.t 10)], none⟩, 2, [2, 3, 4, 5], [], 0⟩,
  ⟨⟨some 12, .ld true 4 (.t 3), none⟩, 1, [], [], 0⟩,
  ⟨⟨some 13, .call 44 [(.t 11), (.t 12)], none⟩, 2, [2, 3, 4, 5, 6, 7], [], 0⟩,
  ⟨⟨some 14, .call 42 [(.t 6), (.t 13)], none⟩, 2, [0, 1, 2, 3, 4, 5, 6, 7, 8], [], 0⟩,
  ⟨⟨none, .st 4 (.t 4) (.t 14), none⟩, 2, [0, 1, 2, 3, 4, 5, 6, 7, 8, 9], [], 0⟩])
 (.ret)), [.cell true 4 4]⟩
def d182 : FDef := ⟨36, .seq (.reg [⟨some 3, .box 76 4 (.t 0), none⟩,
  ⟨some 4, .box 76 4 (.t 1), none⟩,
  ⟨some 5, .box 76 4 (.t 2), none⟩,
  ⟨some 6, .new 78 9 [.b false, .s [], .b false, .s [], .b false, .s [], .b false, .s [], .b false], none⟩,
  ⟨some 7, .mv (.c (.i .i64 (.ofNat 0))), none⟩])
 (.seq (.seq (.reg [⟨some 10, .ld true 4 (.t 5), none⟩,
  ⟨some 11, .call 141 [(.t 10)], none⟩,
  ⟨some 12, .bin .lss (.t 11) (.c (.i .i64 (.ofNat 0))), none⟩])
 (.cond (.t 12) (.seq (.reg [⟨some 13, .build [.b false, .s [], .b false, .s [], .b false, .s [], .b false, .s [], .b false] [], none⟩,
  ⟨none, .st 9 (.t 6) (.t 13), none⟩,
  ⟨some 7, .mv (.c (.i .i64 (.ofNat 2))), none⟩])
 (.ret))
 (.skip)))
 (.seq (.seq (.reg [⟨some 15, .ld true 4 (.t 5), none⟩,
  ⟨some 16, .call 202 [(.t 15)], none⟩,
  ⟨some 14, .mv (.t 16), none⟩,
  ⟨some 17, .ext 0 (.t 14), none⟩,
  ⟨some 18, .ext 1 (.t 14), none⟩,
  ⟨some 8, .new 76 4 [.b false, .s [], .b false, .s []], none⟩,
  ⟨none, .st 4 (.t 8) (.t 17), none⟩,
  ⟨some 9, .mv (.t 18), none⟩])
 (.seq (.reg [⟨some 19, .mv (.t 9), none⟩])
 (.cond (.t 19) (.seq (.dreg 0 [⟨⟨some 20, .ld true 4 (.t 3), none⟩, 1, [], [], 0⟩,
  ⟨⟨some 21, .ld true 4 (.t 4), none⟩, 1, [], [], 0⟩,
  ⟨⟨some 22, .ld true 4 (.t 8), none⟩, 1, [], [], 0⟩,
  ⟨⟨some 23, .call 44 [(.t 21), (.t 22)], none⟩, 2, [1, 2], [], 0⟩,
  ⟨⟨some 24, .call 42 [(.t 20), (.t 23)], none⟩, 2, [0, 1, 2, 3], [], 0⟩,
  ⟨⟨some 25, .build [.b false, .s [], .b false, .s [], .b false, .s [], .b false, .s [], .b false] [(0, 4, (.t 24))], none⟩, 0, [0, 1, 2, 3, 4], [], 0⟩,
  ⟨⟨none, .st 9 (.t 6) (.t 25), none⟩, 2, [0, 1, 2, 3, 4, 5], [], 0⟩,
  ⟨⟨some 7, .mv (.c (.i .i64 (.ofNat 0))), none⟩, 0, [0, 1, 2, 3, 4, 5, 6], [], 0⟩])
 (.ret))
 (.skip))))
 (.seq (.dreg 0 [⟨⟨some 26, .ld true 4 (.t 3), none⟩, 1, [], [], 0⟩,
  ⟨⟨some 27, .ld true 4 (.t 4), none⟩, 1, [], [], 0⟩,
  ⟨⟨some 28, .ld true 4 (.t 4), none⟩, 1, [], [], 0⟩,
  ⟨⟨some 29, .call 44 [(.t 27), (.t 28)], none⟩, 2, [1, 2], [], 0⟩,
  ⟨⟨some 30, .ld true 4 (.t 5), none⟩, 1, [], [], 0⟩,
  ⟨⟨some 31, .call 44 [(.t 29), (.t 30)], none⟩, 2, [1, 2, 3, 4], [], 0⟩,
  ⟨⟨some 32, .ld true 4 (.t 4), none⟩, 1, [], [], 0⟩,
  ⟨⟨some 33, .call 141 [(.t 32)], none⟩, 2, [1, 2, 3, 4, 5, 6], [], 0⟩,
  ⟨⟨some 34, .bin .lss (.t 33) (.c (.i .i64 (.ofNat 0))), none⟩, 0, [1, 2, 3, 4, 5, 6, 7], [], 0⟩,
  ⟨⟨some 35, .build [.b false, .s [], .b false, .s [], .b false, .s [], .b false, .s [], .b false] [(0, 4, (.t 26)), (4, 4, (.t 31)), (8, 1, (.t 34))], none⟩, 0, [0, 1, 2, 3, 4, 5, 6, 7, 8], [], 0⟩,
  ⟨⟨none, .st 9 (.t 6) (.t 35), none⟩, 2, [0, 1, 2, 3, 4, 5, 6, 7, 8, 9], [], 0⟩,
  ⟨⟨some 7, .mv (.c (.i .i64 (.ofNat 0))), none⟩, 0, [0, 1, 2, 3, 4, 5, 6, 7, 8, 9, 10], [], 0⟩])
 (.ret)))), [.cell true 9 6, .t 7]⟩
def d183 : FDef := ⟨8, .seq (.reg [⟨some 2, .box 76 4 (.t 0), none⟩,
  ⟨some 3, .box 76 4 (.t 1), none⟩,
  ⟨some 4, .new 222 12 [.b false, .s [], .b false, .s [], .b false, .s [], .b false, .s [], .b false, .s [], .b false, .s []], none⟩])
 (.seq (.reg [⟨some 5, .ld true 4 (.t 2), none⟩,
  ⟨some 6, .ld true 4 (.t 3), none⟩,
  ⟨some 7, .build [.b false, .s [], .b false, .s [], .b false, .s [], .b false, .s [], .b false, .s [], .b false, .s []] [(0, 4, (.t 5)), (4, 4, (.t 6))], none⟩,
  ⟨none, .st 12 (.t 4) (.t 7), none⟩])
 (.ret)), [.cell true 12 4]⟩
def d184 : FDef := ⟨21, .seq (.reg [⟨some 2, .box 76 4 (.t 0), none⟩,
  ⟨some 3, .box 76 4 (.t 1), none⟩,
  ⟨some 4, .mv (.c (.i .i64 (.ofNat 0))), none⟩])
 (.seq (.seq (.reg [⟨some 8, .ld true 4 (.t 2), none⟩,
  ⟨some 9, .ld true 4 (.t 3), none⟩,
  ⟨some 10, .eqC false [.b, .s, .b, .s] (.t 8) (.t 9), none⟩])
 (.cond (.t 10) (.seq (.reg [⟨some 4, .mv (.c (.i .i64 (.ofNat 0))), none⟩])
 (.ret))
 (.skip)))
 (.seq (.reg [⟨some 12, .ld true 4 (.t 2), none⟩,
  ⟨some 13, .ld true 4 (.t 3), none⟩,
  ⟨some 14, .call 82 [(.t 12), (.t 13)], none⟩,
  ⟨some 11, .mv (.t 14), none⟩,
  ⟨some 15, .ext 0 (.t 11), none⟩,
  ⟨some 16, .ext 1 (.t 11), none⟩,
  ⟨some 17, .ext 2 (.t 11), none⟩,
  ⟨some 5, .new 74 2 [.b false, .s []], none⟩,
  ⟨some 6, .new 74 2 [.b false, .s []], none⟩,
  ⟨some 7, .new 74 2 [.b false, .s []], none⟩,
  ⟨none, .st 2 (.t 5) (.t 15), none⟩,
  ⟨none, .st 2 (.t 6) (.t 16), none⟩,
  ⟨none, .st 2 (.t 7) (.t 17), none⟩])
 (.seq (.reg [⟨some 18, .ld true 2 (.t 5), none⟩,
  ⟨some 19, .ld true 2 (.t 6), none⟩,
  ⟨some 20, .call 208 [(.t 18), (.t 19)], none⟩,
  ⟨some 4, .mv (.t 20), none⟩])
 (.ret)))), [.t 4]⟩
def d185 : FDef := ⟨50, .seq (.reg [⟨some 2, .mv (.c (.s [])), none⟩])
 (.seq (.seq (.reg [⟨some 9, .mv (.t 0), none⟩,
  ⟨some 10, .bin .eql (.t 9) (.c (.s [])), none⟩])
 (.cond (.t 10) (.seq (.reg [⟨some 2, .mv (.c (.s [])), none⟩])
 (.ret))
 (.skip)))
 (.seq (.reg [⟨some 11, .mv (.t 0), none⟩,
  ⟨some 12, .lenT (.t 11), none⟩,
  ⟨some 13, .bin .sub (.t 12) (.c (.i .i64 (.ofNat 1))), none⟩,
  ⟨some 14, .bin .mul (.c (.i .i64 (.ofNat 8))) (.t 13), none⟩,
  ⟨some 15, .mv (.t 0), none⟩,
  ⟨some 16, .idxT (.t 15) (.c (.i .i64 (.ofNat 0))), none⟩,
  ⟨some 17, .call 209 [(.t 16)], none⟩,
  ⟨some 18, .bin .add (.t 14) (.t 17), none⟩,
  ⟨some 3, .mv (.t 18), none⟩])
 (.seq (.reg [⟨some 19, .mv (.t 3), none⟩,
  ⟨some 20, .bin .add (.t 19) (.c (.i .i64 (.ofNat 1))), none⟩,
  ⟨some 21, .bin .quo (.t 20) (.c (.i .i64 (.ofNat 2))), none⟩,
  ⟨some 3, .mv (.t 21), none⟩])
 (.seq (.dreg 1 [⟨⟨some 22, .mv (.t 3), none⟩, 0, [], [0], 0⟩,
  ⟨⟨some 23, .bin .rem (.t 22) (.c (.i .i64 (.ofNat 8))), none⟩, 0, [0], [0], 0⟩,
  ⟨⟨some 24, .bin .shl (.c (.i .u8 (.ofNat 1))) (.t 23), none⟩, 0, [0, 1], [0], 0⟩,
  ⟨⟨some 25, .buildS 5 1 1 [.i .u8 (.ofNat 0)] [(0, 1, (.t 24))], none⟩, 3, [0, 1, 2], [0], 0⟩,
  ⟨⟨some 26, .bts (.t 25), none⟩, 1, [0, 1, 2, 3], [], 0⟩,
  ⟨⟨some 27, .mv (.t 3), none⟩, 0, [], [0], 0⟩,
  ⟨⟨some 28, .bin .quo (.t 27) (.c (.i .i64 (.ofNat 8))), none⟩, 0, [5], [0], 0⟩,
  ⟨⟨some 29, .call 210 [(.c (.s [0])), (.t 28)], none⟩, 2, [5, 6], [0], 0⟩,
  ⟨⟨some 30, .bin .add (.t 26) (.t 29), none⟩, 0, [0, 1, 2, 3, 4, 5, 6, 7], [], 0⟩,
  ⟨⟨some 4, .mv (.t 30), none⟩, 0, [0, 1, 2, 3, 4, 5, 6, 7, 8], [], 0⟩])
 (.block 0 (.loop (.block 1 (.seq (.reg [⟨some 32, .mv (.t 0), none⟩,
  ⟨some 33, .mv (.t 4), none⟩,
  ⟨some 34, .call 155 [(.t 32), (.t 33)], none⟩,
  ⟨some 31, .mv (.t 34), none⟩,
  ⟨some 35, .ext 0 (.t 31), none⟩,
  ⟨some 36, .ext 1 (.t 31), none⟩,
  ⟨some 5, .mv (.t 35), none⟩,
  ⟨some 6, .mv (.t 36), none⟩])
 (.seq (.reg [⟨some 38, .mv (.t 4), none⟩,
  ⟨some 39, .mv (.t 5), none⟩,
  ⟨some 40, .call 116 [(.t 38), (.t 39)], none⟩,
  ⟨some 41, .call 155 [(.t 40), (.c (.s [2]))], none⟩,
  ⟨some 37, .mv (.t 41), none⟩,
  ⟨some 42, .ext 0 (.t 37), none⟩,
  ⟨some 43, .ext 1 (.t 37), none⟩,
  ⟨some 7, .mv (.t 42), none⟩,
  ⟨some 8, .mv (.t 43), none⟩])
 (.seq (.seq (.reg [⟨some 44, .mv (.t 7), none⟩,
  ⟨some 45, .mv (.t 4), none⟩,
  ⟨some 46, .call 117 [(.t 44), (.t 45)], none⟩,
  ⟨some 47, .bin .geq (.t 46) (.c (.i .i64 (.ofNat 0))), none⟩])
 (.cond (.t 47) (.seq (.reg [⟨some 48, .mv (.t 4), none⟩,
  ⟨some 2, .mv (.t 48), none⟩])
 (.ret))
 (.skip)))
 (.reg [⟨some 49, .mv (.t 7), none⟩,
  ⟨some 4, .mv (.t 49), none⟩]))))))))))), [.t 2]⟩
def d186 : FDef := ⟨76, .seq (.reg [⟨some 2, .mv (.c (.i .i64 (.ofNat 0))), none⟩])
 (.seq (.reg [⟨some 3, .mv (.c (.i .u64 (.ofNat 0))), none⟩])
 (.seq (.seq (.reg [⟨some 4, .mv (.c (.i .i64 (.ofNat 0))), none⟩])
 (.block 0 (.loop (.seq (.seq (.reg [⟨some 7, .mv (.t 0), none⟩,
  ⟨some 8, .nilChk (.t 7), none⟩,
  ⟨some 9, .fad 2 (.t 8), none⟩,
  ⟨some 10, .ld false 1 (.t 9), none⟩,
  ⟨some 11, .bin .eql (.t 10) (.c (.i .i64 (.ofNat 0))), none⟩])
 (.cond (.t 11) (.skip)
 (.exit 0)))
 (.seq (.block 1 (.seq (.seq (.dreg 0 [⟨⟨some 14, .mv (.t 0), none⟩, 0, [], [], 0⟩,
  ⟨⟨some 15, .nilChk (.t 14), none⟩, 0, [0], [], 0⟩,
  ⟨⟨some 16, .fad 1 (.t 15), none⟩, 0, [0, 1], [], 0⟩,
  ⟨⟨some 17, .ld false 1 (.t 16), none⟩, 1, [0, 1, 2], [], 0⟩,
  ⟨⟨some 18, .mv (.t 0), none⟩, 0, [], [], 0⟩,
  ⟨⟨some 19, .nilChk (.t 18), none⟩, 0, [4], [], 0⟩,
  ⟨⟨some 20, .fad 0 (.t 19), none⟩, 0, [4, 5], [], 0⟩,
  ⟨⟨some 21, .ld false 1 (.t 20), none⟩, 1, [4, 5, 6], [], 0⟩,
  ⟨⟨some 22, .lenT (.t 21), none⟩, 0, [4, 5, 6, 7], [], 0⟩,
  ⟨⟨some 23, .bin .geq (.t 17) (.t 22), none⟩, 0, [0, 1, 2, 3, 4, 5, 6, 7, 8], [], 0⟩])
 (.cond (.t 23) (.seq (.reg [⟨some 24, .mv (.t 0), none⟩,
  ⟨some 25, .call 211 [(.t 24), (.c (.i .i64 (.ofNat 22)))], none⟩])
 (.exit 0))
 (.skip)))
 (.seq (.dreg 0 [⟨⟨some 26, .mv (.t 0), none⟩, 0, [], [], 0⟩,
  ⟨⟨some 27, .nilChk (.t 26), none⟩, 0, [0], [], 0⟩,
  ⟨⟨some 28, .fad 0 (.t 27), none⟩, 0, [0, 1], [], 0⟩,
  ⟨⟨some 29, .ld false 1 (.t 28), none⟩, 1, [0, 1, 2], [], 0⟩,
  ⟨⟨some 30, .mv (.t 0), none⟩, 0, [], [], 0⟩,
  ⟨⟨some 31, .nilChk (.t 30), none⟩, 0, [4], [], 0⟩,
  ⟨⟨some 32, .fad 1 (.t 31), none⟩, 0, [4, 5], [], 0⟩,
  ⟨⟨some 33, .ld false 1 (.t 32), none⟩, 1, [4, 5, 6], [], 0⟩,
  ⟨⟨some 34, .idxT (.t 29) (.t 33), none⟩, 0, [0, 1, 2, 3, 4, 5, 6, 7], [], 0⟩,
  ⟨⟨some 5, .mv (.t 34), none⟩, 0, [0, 1, 2, 3, 4, 5, 6, 7, 8], [], 0⟩])
 (.seq (.reg [⟨some 35, .mv (.t 0), none⟩,
  ⟨some 36, .nilChk (.t 35), none⟩,
  ⟨some 37, .fad 1 (.t 36), none⟩,
  ⟨some 38, .ld false 1 (.t 37), none⟩,
  ⟨some 39, .bin .add (.t 38) (.c (.i .i64 (.ofNat 1))), none⟩,
  ⟨some 40, .nilChk (.t 35), none⟩,
  ⟨some 41, .fad 1 (.t 40), none⟩,
  ⟨none, .st 1 (.t 41) (.t 39), none⟩])
 (.seq (.seq (.reg [⟨some 42, .mv (.t 4), none⟩,
  ⟨some 43, .bin .eql (.t 42) (.c (.i .i64 (.ofNat 63))), none⟩,
  ⟨some 44, .mv (.t 43), none⟩,
  ⟨some 45, .mv (.t 5), (some (44, true))⟩,
  ⟨some 46, .bin .gtr (.t 45) (.c (.i .u8 (.ofNat 1))), (some (44, true))⟩,
  ⟨some 47, .pick (.t 44) (.t 46) (.c (.b false)), none⟩,
  ⟨some 48, .mv (.t 47), none⟩,
  ⟨some 49, .mv (.t 4), (some (48, false))⟩,
  ⟨some 50, .bin .gtr (.t 49) (.c (.i .i64 (.ofNat 0))), (some (48, false))⟩,
  ⟨some 51, .mv (.t 50), (some (48, false))⟩,
  ⟨some 52, .mv (.t 5), (some (51, true))⟩,
  ⟨some 53, .bin .eql (.t 52) (.c (.i .u8 (.ofNat 0))), (some (51, true))⟩,
  ⟨some 54, .pick (.t 51) (.t 53) (.c (.b false)), (some (48, false))⟩,
  ⟨some 55, .pick (.t 48) (.c (.b true)) (.t 54), none⟩])
 (.cond (.t 55) (.seq (.reg [⟨some 56, .mv (.t 0), none⟩,
  ⟨some 57, .call 211 [(.t 56), (.c (.i .i64 (.ofNat 5)))], none⟩])
 (.exit 0))
 (.skip)))
 (.seq (.reg [⟨some 58, .mv (.t 3), none⟩,
  ⟨some 59, .mv (.t 5), none⟩,
  ⟨some 60, .bin .and (.t 59) (.c (.i .u8 (.ofNat 127))), none⟩,
  ⟨some 61, .conv .u64 (.t 60), none⟩,
  ⟨some 62, .mv (.t 4), none⟩,
  ⟨some 63, .bin .shl (.t 61) (.t 62), none⟩,
  ⟨some 64, .bin .or (.t 58) (.t 63), none⟩,
  ⟨some 3, .mv (.t 64), none⟩])
 (.seq (.reg [⟨some 65, .mv (.t 5), none⟩,
  ⟨some 66, .bin .lss (.t 65) (.c (.i .u8 (.ofNat 128))), none⟩])
 (.cond (.t 66) (.seq (.reg [⟨some 67, .mv (.t 3), none⟩,
  ⟨some 68, .bin .shr (.t 67) (.c (.i .u64 (.ofNat 1))), none⟩,
  ⟨some 69, .conv .i64 (.t 68), none⟩,
  ⟨some 6, .mv (.t 69), none⟩])
 (.seq (.seq (.reg [⟨some 70, .mv (.t 3), none⟩,
  ⟨some 71, .bin .and (.t 70) (.c (.i .u64 (.ofNat 1))), none⟩,
  ⟨some 72, .bin .eql (.t 71) (.c (.i .u64 (.ofNat 1))), none⟩])
 (.cond (.t 72) (.reg [⟨some 73, .mv (.t 6), none⟩,
  ⟨some 74, .un .xor (.t 73), none⟩,
  ⟨some 6, .mv (.t 74), none⟩])
 (.skip)))
 (.seq (.reg [⟨some 75, .mv (.t 6), none⟩,
  ⟨some 2, .mv (.t 75), none⟩])
 (.ret))))
 (.skip)))))))))
 (.reg [⟨some 12, .mv (.t 4), none⟩,
  ⟨some 13, .bin .add (.t 12) (.c (.i .i64 (.ofNat 7))), none⟩,
  ⟨some 4, .mv (.t 13), none⟩]))))))
 (.seq (.reg [⟨some 2, .mv (.c (.i .i64 (.ofNat 0))), none⟩])
 (.ret)))), [.t 2]⟩
def d187 : FDef := ⟨24, .seq (.reg [⟨some 4, .mv (.c (.sl none 0 0 true)), none⟩])
 (.seq (.reg [⟨some 5, .mv (.c (.sl none 0 0 true)), none⟩])
 (.seq (.seq (.reg [⟨some 7, .mv (.t 0), none⟩,
  ⟨some 8, .call 212 [(.t 7)], none⟩,
  ⟨some 9, .mv (.c (.i .i64 (.ofNat 0))), none⟩])
 (.block 0 (.loop (.seq (.reg [⟨some 10, .bin .lss (.t 9) (.t 8), none⟩])
 (.seq (.cond (.t 10) (.skip)
 (.exit 0))
 (.seq (.block 1 (.seq (.reg [⟨some 11, .mv (.t 1), none⟩,
  ⟨some 12, .callV (.t 11) [], none⟩,
  ⟨some 6, .new 84 36 [.b false, .s [], .b false, .s [], .b false, .s [], .b false, .s [], .b false, .b false, .s [], .b false, .s [], .b false, .s [], .b false, .s [], .b false, .b false, .b false, .b false, .s [], .b false, .s [], .b false, .s [], .b false, .s [], .b false, .s [], .b false, .s [], .b false, .s [], .b false, .s []], none⟩,
  ⟨none, .st 36 (.t 6) (.t 12), none⟩])
 (.seq (.seq (.reg [⟨some 13, .mv (.t 0), none⟩,
  ⟨some 14, .nilChk (.t 13), none⟩,
  ⟨some 15, .fad 2 (.t 14), none⟩,
  ⟨some 16, .ld false 1 (.t 15), none⟩,
  ⟨some 17, .bin .neq (.t 16) (.c (.i .i64 (.ofNat 0))), none⟩])
 (.cond (.t 17) (.seq (.reg [⟨some 4, .mv (.c (.sl none 0 0 true)), none⟩])
 (.ret))
 (.skip)))
 (.reg [⟨some 18, .mv (.t 5), none⟩,
  ⟨some 19, .ld true 36 (.t 6), none⟩,
  ⟨some 20, .buildS 84 36 1 [.b false, .s [], .b false, .s [], .b false, .s [], .b false, .s [], .b false, .b false, .s [], .b false, .s [], .b false, .s [], .b false, .s [], .b false, .b false, .b false, .b false, .s [], .b false, .s [], .b false, .s [], .b false, .s [], .b false, .s [], .b false, .s [], .b false, .s [], .b false, .s []] [(0, 36, (.t 19))], none⟩,
  ⟨some 21, .app 84 36 408 (.t 18) (.t 20), none⟩,
  ⟨some 5, .mv (.t 21), none⟩]))))
 (.reg [⟨some 22, .bin .add (.t 9) (.c (.i .i64 (.ofNat 1))), none⟩,
  ⟨some 9, .mv (.t 22), none⟩])))))))
 (.seq (.reg [⟨some 23, .mv (.t 5), none⟩,
  ⟨some 4, .mv (.t 23), none⟩])
 (.ret)))), [.t 4]⟩
def d188 : FDef := ⟨9, .seq (.reg [⟨some 1, .new 84 36 [.b false, .s [], .b false, .s [], .b false, .s [], .b false, .s [], .b false, .b false, .s [], .b false, .s [], .b false, .s [], .b false, .s [], .b false, .b false, .b false, .b false, .s [], .b false, .s [], .b false, .s [], .b false, .s [], .b false, .s [], .b false, .s [], .b false, .s [], .b false, .s []], none⟩])
 (.seq (.reg [⟨some 3, .ld false 1 (.t 0), none⟩,
  ⟨some 4, .call 189 [(.t 3)], none⟩,
  ⟨some 2, .new 80 20 [.b false, .s [], .b false, .s [], .b false, .s [], .b false, .s [], .b false, .b false, .s [], .b false, .s [], .b false, .s [], .b false, .s [], .b false, .b false, .b false], none⟩,
  ⟨none, .st 20 (.t 2) (.t 4), none⟩])
 (.seq (.dreg 0 [⟨⟨some 5, .ld true 20 (.t 2), none⟩, 1, [], [], 0⟩,
  ⟨⟨some 6, .ld false 1 (.t 0), none⟩, 1, [], [], 0⟩,
  ⟨⟨some 7, .call 190 [(.t 6)], none⟩, 2, [1], [], 0⟩,
  ⟨⟨some 8, .build [.b false, .s [], .b false, .s [], .b false, .s [], .b false, .s [], .b false, .b false, .s [], .b false, .s [], .b false, .s [], .b false, .s [], .b false, .b false, .b false, .b false, .s [], .b false, .s [], .b false, .s [], .b false, .s [], .b false, .s [], .b false, .s [], .b false, .s [], .b false, .s []] [(0, 20, (.t 5)), (20, 16, (.t 7))], none⟩, 0, [0, 1, 2], [], 0⟩,
  ⟨⟨none, .st 36 (.t 1) (.t 8), none⟩, 2, [0, 1, 2, 3], [], 0⟩])
 (.ret))), [.cell true 36 1]⟩
def d189 : FDef := ⟨18, .seq (.reg [⟨some 2, .new 80 20 [.b false, .s [], .b false, .s [], .b false, .s [], .b false, .s [], .b false, .b false, .s [], .b false, .s [], .b false, .s [], .b false, .s [], .b false, .b false, .b false], none⟩])
 (.seq (.reg [⟨some 6, .mv (.t 0), none⟩,
  ⟨some 7, .call 213 [(.t 6)], none⟩,
  ⟨some 3, .new 78 9 [.b false, .s [], .b false, .s [], .b false, .s [], .b false, .s [], .b false], none⟩,
  ⟨none, .st 9 (.t 3) (.t 7), none⟩])
 (.seq (.reg [⟨some 8, .mv (.t 0), none⟩,
  ⟨some 9, .call 213 [(.t 8)], none⟩,
  ⟨some 4, .new 78 9 [.b false, .s [], .b false, .s [], .b false, .s [], .b false, .s [], .b false], none⟩,
  ⟨none, .st 9 (.t 4) (.t 9), none⟩])
 (.seq (.reg [⟨some 10, .mv (.t 0), none⟩,
  ⟨some 11, .call 214 [(.t 10)], none⟩,
  ⟨some 5, .mv (.t 11), none⟩])
 (.seq (.dreg 0 [⟨⟨some 12, .ld true 9 (.t 3), none⟩, 1, [], [], 0⟩,
  ⟨⟨some 13, .ld true 9 (.t 4), none⟩, 1, [], [], 0⟩,
  ⟨⟨some 14, .mv (.t 5), none⟩, 0, [], [], 0⟩,
  ⟨⟨some 15, .mv (.t 0), none⟩, 0, [], [], 0⟩,
  ⟨⟨some 16, .call 214 [(.t 15)], none⟩, 2, [3], [], 0⟩,
  ⟨⟨some 17, .build [.b false, .s [], .b false, .s [], .b false, .s [], .b false, .s [], .b false, .b false, .s [], .b false, .s [], .b false, .s [], .b false, .s [], .b false, .b false, .b false] [(0, 9, (.t 12)), (9, 9, (.t 13)), (18, 1, (.t 14)), (19, 1, (.t 16))], none⟩, 0, [0, 1, 2, 3, 4], [], 0⟩,
  ⟨⟨none, .st 20 (.t 2) (.t 17), none⟩, 2, [0, 1, 2, 3, 4, 5], [], 0⟩])
 (.ret))))), [.cell true 20 2]⟩
def tr2 : Tr := .n 155 d155 (.n 138 d138 (.n 129 d129 (.n 124 d124 (.n 122 d122 (.n 121 d121 (.n 120 d120 (.l) (.l)) (.l)) (.n 123 d123 (.l) (.l))) (.n 127 d127 (.n 125 d125 (.l) (.l)) (.n 128 d128 (.l) (.l)))) (.n 134 d134 (.n 132 d132 (.n 131 d131 (.n 130 d130 (.l) (.l)) (.l)) (.n 133 d133 (.l) (.l))) (.n 136 d136 (.n 135 d135 (.l) (.l)) (.n 137 d137 (.l) (.l))))) (.n 147 d147 (.n 143 d143 (.n 141 d141 (.n 140 d140 (.n 139 d139 (.l) (.l)) (.l)) (.n 142 d142 (.l) (.l))) (.n 145 d145 (.n 144 d144 (.l) (.l)) (.n 146 d146 (.l) (.l)))) (.n 151 d151 (.n 149 d149 (.n 148 d148 (.l) (.l)) (.n 150 d150 (.l) (.l))) (.n 153 d153 (.n 152 d152 (.l) (.l)) (.n 154 d154 (.l) (.l)))))) (.n 173 d173 (.n 165 d165 (.n 161 d161 (.n 159 d159 (.n 158 d158 (.n 157 d157 (.l) (.l)) (.l)) (.n 160 d160 (.l) (.l))) (.n 163 d163 (.n 162 d162 (.l) (.l)) (.n 164 d164 (.l) (.l)))) (.n 169 d169 (.n 167 d167 (.n 166 d166 (.l) (.l)) (.n 168 d168 (.l) (.l))) (.n 171 d171 (.n 170 d170 (.l) (.l)) (.n 172 d172 (.l) (.l))))) (.n 182 d182 (.n 178 d178 (.n 176 d176 (.n 175 d175 (.n 174 d174 (.l) (.l)) (.l)) (.n 177 d177 (.l) (.l))) (.n 180 d180 (.n 179 d179 (.l) (.l)) (.n 181 d181 (.l) (.l)))) (.n 186 d186 (.n 184 d184 (.n 183 d183 (.l) (.l)) (.n 185 d185 (.l) (.l))) (.n 188 d188 (.n 187 d187 (.l) (.l)) (.n 189 d189 (.l) (.l))))))
theorem chk2 : chkTr Go.Proofs.Tryz.prog tr2 = true := by kernel_rfl
end Go.Em
