/- The functions of the program as instructions of the abstract machine, part 3. -/
import Derived.Test.YtokhjbkkpbceeaaGreatDoorEv
import Derived.Test.YtokhjbkkpbceeaaGreatDoorProg
namespace Go.Em
open Go
def d190 : FDef := ⟨20, .seq (.reg [⟨some 2, .new 82 16 [.b false, .s [], .b false, .s [], .b false, .s [], .b false, .s [], .b false, .s [], .b false, .s [], .b false, .s [], .b false, .s []], none⟩])
 (.seq (.reg [⟨some 7, .mv (.t 0), none⟩,
  ⟨some 8, .call 215 [(.t 7)], none⟩,
  ⟨some 9, .mv (.t 0), none⟩,
  ⟨some 10, .call 215 [(.t 9)], none⟩,
  ⟨some 3, .new 76 4 [.b false, .s [], .b false, .s []], none⟩,
  ⟨some 4, .new 76 4 [.b false, .s [], .b false, .s []], none⟩,
  ⟨none, .st 4 (.t 3) (.t 8), none⟩,
  ⟨none, .st 4 (.t 4) (.t 10), none⟩])
 (.seq (.reg [⟨some 11, .mv (.t 0), none⟩,
  ⟨some 12, .call 215 [(.t 11)], none⟩,
  ⟨some 13, .mv (.t 0), none⟩,
  ⟨some 14, .call 215 [(.t 13)], none⟩,
  ⟨some 5, .new 76 4 [.b false, .s [], .b false, .s []], none⟩,
  ⟨some 6, .new 76 4 [.b false, .s [], .b false, .s []], none⟩,
  ⟨none, .st 4 (.t 5) (.t 12), none⟩,
  ⟨none, .st 4 (.t 6) (.t 14), none⟩])
 (.seq (.reg [⟨some 15, .ld true 4 (.t 3), none⟩,
  ⟨some 16, .ld true 4 (.t 4), none⟩,
  ⟨some 17, .ld true 4 (.t 5), none⟩,
  ⟨some 18, .ld true 4 (.t 6), none⟩,
  ⟨some 19, .build [.b false, .s [], .b false, .s [], .b false, .s [], .b false, .s [], .b false, .s [], .b false, .s [], .b false, .s [], .b false, .s []] [(0, 4, (.t 15)), (4, 4, (.t 16)), (8, 4, (.t 17)), (12, 4, (.t 18))], none⟩,
  ⟨none, .st 16 (.t 2) (.t 19), none⟩])
 (.ret)))), [.cell true 16 2]⟩
def d191 : FDef := ⟨36, .seq (.reg [⟨some 4, .mv (.c (.i .u32 (.ofNat 0))), none⟩])
 (.seq (.reg [⟨some 5, .mv (.c (.i .u64 (.ofNat 0))), none⟩])
 (.seq (.seq (.reg [⟨some 7, .mv (.t 0), none⟩,
  ⟨some 8, .lenS (.t 7), none⟩,
  ⟨some 9, .bin .sub (.t 8) (.c (.i .i64 (.ofNat 1))), none⟩,
  ⟨some 6, .mv (.t 9), none⟩])
 (.block 0 (.loop (.seq (.seq (.reg [⟨some 10, .mv (.t 6), none⟩,
  ⟨some 11, .bin .geq (.t 10) (.c (.i .i64 (.ofNat 0))), none⟩])
 (.cond (.t 11) (.skip)
 (.exit 0)))
 (.seq (.block 1 (.seq (.reg [⟨some 14, .mv (.t 5), none⟩,
  ⟨some 15, .bin .shl (.t 14) (.c (.i .u64 (.ofNat 32))), none⟩,
  ⟨some 16, .mv (.t 0), none⟩,
  ⟨some 17, .mv (.t 6), none⟩,
  ⟨some 18, .iadS 1 (.t 16) (.t 17), none⟩,
  ⟨some 19, .ld false 1 (.t 18), none⟩,
  ⟨some 20, .conv .u64 (.t 19), none⟩,
  ⟨some 21, .bin .or (.t 15) (.t 20), none⟩,
  ⟨some 5, .mv (.t 21), none⟩])
 (.dreg 0 [⟨⟨some 22, .mv (.t 0), none⟩, 0, [], [], 0⟩,
  ⟨⟨some 23, .mv (.t 6), none⟩, 0, [], [], 0⟩,
  ⟨⟨some 24, .mv (.t 5), none⟩, 0, [], [], 0⟩,
  ⟨⟨some 25, .mv (.t 1), none⟩, 0, [], [], 0⟩,
  ⟨⟨some 26, .conv .u64 (.t 25), none⟩, 0, [3], [], 0⟩,
  ⟨⟨some 27, .bin .quo (.t 24) (.t 26), none⟩, 0, [2, 3, 4], [], 0⟩,
  ⟨⟨some 28, .conv .u32 (.t 27), none⟩, 0, [2, 3, 4, 5], [], 0⟩,
  ⟨⟨some 29, .mv (.t 5), none⟩, 0, [], [], 0⟩,
  ⟨⟨some 30, .mv (.t 1), none⟩, 0, [], [], 0⟩,
  ⟨⟨some 31, .conv .u64 (.t 30), none⟩, 0, [8], [], 0⟩,
  ⟨⟨some 32, .bin .rem (.t 29) (.t 31), none⟩, 0, [7, 8, 9], [], 0⟩,
  ⟨⟨some 33, .iadS 1 (.t 22) (.t 23), none⟩, 0, [0, 1, 2, 3, 4, 5, 6], [], 0⟩,
  ⟨⟨none, .st 1 (.t 33) (.t 28), none⟩, 2, [0, 1, 2, 3, 4, 5, 6, 11], [], 0⟩,
  ⟨⟨some 5, .mv (.t 32), none⟩, 0, [0, 1, 2, 3, 4, 5, 6, 7, 8, 9, 10, 11, 12], [], 0⟩])))
 (.reg [⟨some 12, .mv (.t 6), none⟩,
  ⟨some 13, .bin .sub (.t 12) (.c (.i .i64 (.ofNat 1))), none⟩,
  ⟨some 6, .mv (.t 13), none⟩]))))))
 (.seq (.reg [⟨some 34, .mv (.t 5), none⟩,
  ⟨some 35, .conv .u32 (.t 34), none⟩,
  ⟨some 4, .mv (.t 35), none⟩])
 (.ret)))), [.t 4]⟩
def d192 : FDef := ⟨6, .seq (.reg [⟨some 2, .mv (.c (.i .i64 (.ofNat 0))), none⟩])
 (.seq (.reg [⟨some 3, .mv (.t 0), none⟩,
  ⟨some 4, .call 216 [(.t 3)], none⟩,
  ⟨some 5, .bin .sub (.c (.i .i64 (.ofNat 32))) (.t 4), none⟩,
  ⟨some 2, .mv (.t 5), none⟩])
 (.ret)), [.t 2]⟩
def d193 : FDef := ⟨41, .seq (.reg [⟨some 4, .mv (.c (.sl none 0 0 true)), none⟩])
 (.seq (.reg [⟨some 9, .mv (.t 0), none⟩,
  ⟨some 10, .lenS (.t 9), none⟩,
  ⟨some 11, .bin .add (.t 10) (.c (.i .i64 (.ofNat 1))), none⟩,
  ⟨some 12, .mkS 159 1 4 [.i .u32 (.ofNat 0)] (.t 11) (.t 11), none⟩,
  ⟨some 5, .mv (.t 12), none⟩])
 (.seq (.seq (.reg [⟨some 13, .mv (.t 0), none⟩,
  ⟨some 14, .lenS (.t 13), none⟩,
  ⟨some 15, .mv (.c (.i .i64 (.ofNat 0))), none⟩])
 (.block 0 (.loop (.seq (.reg [⟨some 16, .bin .lss (.t 15) (.t 14), none⟩])
 (.seq (.cond (.t 16) (.skip)
 (.exit 0))
 (.seq (.block 1 (.seq (.reg [⟨some 17, .mv (.t 15), none⟩,
  ⟨some 18, .iadS 1 (.t 13) (.t 15), none⟩,
  ⟨some 19, .ld false 1 (.t 18), none⟩,
  ⟨some 6, .mv (.t 17), none⟩,
  ⟨some 7, .mv (.t 19), none⟩])
 (.seq (.reg [⟨some 20, .mv (.t 7), none⟩,
  ⟨some 21, .conv .u64 (.t 20), none⟩,
  ⟨some 22, .mv (.t 1), none⟩,
  ⟨some 23, .bin .shl (.t 21) (.t 22), none⟩,
  ⟨some 8, .mv (.t 23), none⟩])
 (.seq (.reg [⟨some 24, .mv (.t 5), none⟩,
  ⟨some 25, .mv (.t 6), none⟩,
  ⟨some 26, .iadS 1 (.t 24) (.t 25), none⟩,
  ⟨some 27, .ld false 1 (.t 26), none⟩,
  ⟨some 28, .mv (.t 8), none⟩,
  ⟨some 29, .conv .u32 (.t 28), none⟩,
  ⟨some 30, .bin .or (.t 27) (.t 29), none⟩,
  ⟨some 31, .iadS 1 (.t 24) (.t 25), none⟩,
  ⟨none, .st 1 (.t 31) (.t 30), none⟩])
 (.reg [⟨some 32, .mv (.t 5), none⟩,
  ⟨some 33, .mv (.t 6), none⟩,
  ⟨some 34, .bin .add (.t 33) (.c (.i .i64 (.ofNat 1))), none⟩,
  ⟨some 35, .mv (.t 8), none⟩,
  ⟨some 36, .bin .shr (.t 35) (.c (.i .u64 (.ofNat 32))), none⟩,
  ⟨some 37, .conv .u32 (.t 36), none⟩,
  ⟨some 38, .iadS 1 (.t 32) (.t 34), none⟩,
  ⟨none, .st 1 (.t 38) (.t 37), none⟩])))))
 (.reg [⟨some 39, .bin .add (.t 15) (.c (.i .i64 (.ofNat 1))), none⟩,
  ⟨some 15, .mv (.t 39), none⟩])))))))
 (.seq (.reg [⟨some 40, .mv (.t 5), none⟩,
  ⟨some 4, .mv (.t 40), none⟩])
 (.ret)))), [.t 4]⟩
def d194 : FDef := ⟨21, .seq (.reg [⟨some 2, .mv (.c (.sl none 0 0 true)), none⟩])
 (.seq (.block 0 (.loop (.seq (.seq (.reg [⟨some 3, .mv (.t 0), none⟩,
  ⟨some 4, .lenS (.t 3), none⟩,
  ⟨some 5, .bin .gtr (.t 4) (.c (.i .i64 (.ofNat 0))), none⟩,
  ⟨some 6, .mv (.t 5), none⟩,
  ⟨some 7, .mv (.t 0), (some (6, true))⟩,
  ⟨some 8, .mv (.t 0), (some (6, true))⟩,
  ⟨some 9, .lenS (.t 8), (some (6, true))⟩,
  ⟨some 10, .bin .sub (.t 9) (.c (.i .i64 (.ofNat 1))), (some (6, true))⟩,
  ⟨some 11, .iadS 1 (.t 7) (.t 10), (some (6, true))⟩,
  ⟨some 12, .ld false 1 (.t 11), (some (6, true))⟩,
  ⟨some 13, .bin .eql (.t 12) (.c (.i .u32 (.ofNat 0))), (some (6, true))⟩,
  ⟨some 14, .pick (.t 6) (.t 13) (.c (.b false)), none⟩])
 (.cond (.t 14) (.skip)
 (.exit 0)))
 (.block 1 (.reg [⟨some 15, .mv (.t 0), none⟩,
  ⟨some 16, .mv (.t 0), none⟩,
  ⟨some 17, .lenS (.t 16), none⟩,
  ⟨some 18, .bin .sub (.t 17) (.c (.i .i64 (.ofNat 1))), none⟩,
  ⟨some 19, .slcS 1 (.t 15) none (some (.t 18)) none, none⟩,
  ⟨some 0, .mv (.t 19), none⟩])))))
 (.seq (.reg [⟨some 20, .mv (.t 0), none⟩,
  ⟨some 2, .mv (.t 20), none⟩])
 (.ret))), [.t 2]⟩
def d195 : FDef := ⟨37, .seq (.reg [⟨some 4, .mv (.c (.s [])), none⟩])
 (.seq (.seq (.reg [⟨some 7, .mv (.t 0), none⟩,
  ⟨some 8, .bin .eql (.t 7) (.c (.s [])), none⟩,
  ⟨some 9, .mv (.t 8), none⟩,
  ⟨some 10, .mv (.t 1), (some (9, false))⟩,
  ⟨some 11, .bin .eql (.t 10) (.c (.s [])), (some (9, false))⟩,
  ⟨some 12, .pick (.t 9) (.c (.b true)) (.t 11), none⟩])
 (.cond (.t 12) (.seq (.reg [⟨some 13, .mv (.t 0), none⟩,
  ⟨some 4, .mv (.t 13), none⟩])
 (.ret))
 (.skip)))
 (.seq (.seq (.reg [⟨some 14, .mv (.t 1), none⟩,
  ⟨some 15, .lenT (.t 14), none⟩,
  ⟨some 16, .bin .eql (.t 15) (.c (.i .i64 (.ofNat 1))), none⟩,
  ⟨some 17, .mv (.t 16), none⟩,
  ⟨some 18, .mv (.t 1), (some (17, true))⟩,
  ⟨some 19, .idxT (.t 18) (.c (.i .i64 (.ofNat 0))), (some (17, true))⟩,
  ⟨some 20, .bin .lss (.t 19) (.c (.i .u8 (.ofNat 128))), (some (17, true))⟩,
  ⟨some 21, .pick (.t 17) (.t 20) (.c (.b false)), none⟩])
 (.cond (.t 21) (.seq (.reg [⟨some 22, .mv (.t 0), none⟩,
  ⟨some 23, .mv (.t 1), none⟩,
  ⟨some 24, .idxT (.t 23) (.c (.i .i64 (.ofNat 0))), none⟩,
  ⟨some 25, .call 217 [(.t 22), (.t 24)], none⟩,
  ⟨some 4, .mv (.t 25), none⟩])
 (.ret))
 (.skip)))
 (.seq (.seq (.reg [⟨some 27, .mv (.t 1), none⟩,
  ⟨some 28, .call 218 [(.t 27)], none⟩,
  ⟨some 26, .mv (.t 28), none⟩,
  ⟨some 29, .ext 0 (.t 26), none⟩,
  ⟨some 30, .ext 1 (.t 26), none⟩,
  ⟨some 5, .new 309 1 [.b false, .b false, .b false, .b false, .b false, .b false, .b false, .b false, .b false, .b false, .b false, .b false, .b false, .b false, .b false, .b false, .b false, .b false, .b false, .b false, .b false, .b false, .b false, .b false, .b false, .b false, .b false, .b false, .b false, .b false, .b false, .b false, .b false, .b false, .b false, .b false, .b false, .b false, .b false, .b false, .b false, .b false, .b false, .b false, .b false, .b false, .b false, .b false, .b false, .b false, .b false, .b false, .b false, .b false, .b false, .b false, .b false, .b false, .b false, .b false, .b false, .b false, .b false, .b false, .b false, .b false, .b false, .b false, .b false, .b false, .b false, .b false, .b false, .b false, .b false, .b false, .b false, .b false, .b false, .b false, .b false, .b false, .b false, .b false, .b false, .b false, .b false, .b false, .b false, .b false, .b false, .b false, .b false, .b false, .b false, .b false, .b false, .b false, .b false, .b false, .b false, .b false, .b false, .b false, .b false, .b false, .b false, .b false, .b false, .b false, .b false, .b false, .b false, .b false, .b false, .b false, .b false, .b false, .b false, .b false, .b false, .b false, .b false, .b false, .b false, .b false, .b false, .b false, .b false, .b false, .b false, .b false, .b false, .b false, .b false, .b false, .b false, .b false, .b false, .b false, .b false, .b false, .b false, .b false, .b false, .b false, .b false, .b false, .b false, .b false, .b false, .b false, .b false, .b false, .b false, .b false, .b false, .b false, .b false, .b false, .b false, .b false, .b false, .b false, .b false, .b false, .b false, .b false, .b false, .b false, .b false, .b false, .b false, .b false, .b false, .b false, .b false, .b false, .b false, .b false, .b false, .b false, .b false, .b false, .b false, .b false, .b false, .b false, .b false, .b false, .b false, .b false, .b false, .b false, .b false, .b false, .b false, .b false, .b false, .b false, .b false, .b false, .b false, .b false, .b false, .b false, .b false, .b false, .b false, .b false, .b false, .b false, .b false, .b false, .b false, .b false, .b false, .b false, .b false, .b false, .b false, .b false, .b false, .b false, .b false, .b false, .b false, .b false, .b false, .b false, .b false, .b false, .b false, .b false, .b false, .b false, .b false, .b false, .b false, .b false, .b false, .b false, .b false, .b false, .b false, .b false, .b false, .b false, .b false, .b false, .b false, .b false, .b false, .b false, .b false, .b false], none⟩,
  ⟨none, .st 256 (.t 5) (.t 29), none⟩,
  ⟨some 6, .mv (.t 30), none⟩])
 (.seq (.reg [⟨some 31, .mv (.t 6), none⟩])
 (.cond (.t 31) (.seq (.reg [⟨some 32, .mv (.t 0), none⟩,
  ⟨some 33, .call 219 [(.t 32), (.t 5)], none⟩,
  ⟨some 4, .mv (.t 33), none⟩])
 (.ret))
 (.skip))))
 (.seq (.reg [⟨some 34, .mv (.t 0), none⟩,
  ⟨some 35, .mv (.t 1), none⟩,
  ⟨some 36, .call 220 [(.t 34), (.t 35)], none⟩,
  ⟨some 4, .mv (.t 36), none⟩])
 (.ret))))), [.t 4]⟩
def d196 : FDef := ⟨8, .seq (.reg [⟨some 4, .mv (.c (.i .i64 (.ofNat 0))), none⟩])
 (.seq (.reg [⟨some 5, .mv (.t 0), none⟩,
  ⟨some 6, .mv (.t 1), none⟩,
  ⟨some 7, .call 221 [(.t 5), (.t 6)], none⟩,
  ⟨some 4, .mv (.t 7), none⟩])
 (.ret)), [.t 4]⟩
def d197 : FDef := ⟨19, .seq (.reg [⟨some 2, .box 76 4 (.t 0), none⟩,
  ⟨some 3, .box 76 4 (.t 1), none⟩,
  ⟨some 4, .new 76 4 [.b false, .s [], .b false, .s []], none⟩,
  ⟨some 5, .mv (.c (.i .i64 (.ofNat 0))), none⟩])
 (.seq (.dreg 0 [⟨⟨some 6, .fad 0 (.t 2), none⟩, 0, [], [], 0⟩,
  ⟨⟨some 7, .ld true 2 (.t 6), none⟩, 1, [0], [], 0⟩,
  ⟨⟨some 8, .ld true 4 (.t 3), none⟩, 1, [], [], 0⟩,
  ⟨⟨some 9, .call 87 [(.t 8)], none⟩, 2, [2], [], 0⟩,
  ⟨⟨some 10, .call 86 [(.t 7), (.t 9)], none⟩, 2, [0, 1, 2, 3], [], 0⟩,
  ⟨⟨some 11, .ld true 4 (.t 2), none⟩, 1, [], [], 0⟩,
  ⟨⟨some 12, .call 87 [(.t 11)], none⟩, 2, [0, 1, 2, 3, 4, 5], [], 0⟩,
  ⟨⟨some 13, .fad 0 (.t 3), none⟩, 0, [], [], 0⟩,
  ⟨⟨some 14, .ld true 2 (.t 13), none⟩, 1, [7], [], 0⟩,
  ⟨⟨some 15, .call 86 [(.t 12), (.t 14)], none⟩, 2, [0, 1, 2, 3, 4, 5, 6, 7, 8], [], 0⟩,
  ⟨⟨some 16, .call 222 [(.t 10), (.t 15)], none⟩, 2, [0, 1, 2, 3, 4, 5, 6, 7, 8, 9], [], 0⟩,
  ⟨⟨some 17, .ext 0 (.t 16), none⟩, 0, [0, 1, 2, 3, 4, 5, 6, 7, 8, 9, 10], [], 0⟩,
  ⟨⟨some 18, .ext 1 (.t 16), none⟩, 0, [0, 1, 2, 3, 4, 5, 6, 7, 8, 9, 10], [], 0⟩,
  ⟨⟨none, .st 4 (.t 4) (.t 17), none⟩, 2, [0, 1, 2, 3, 4, 5, 6, 7, 8, 9, 10, 11, 12], [], 0⟩,
  ⟨⟨some 5, .mv (.t 18), none⟩, 0, [0, 1, 2, 3, 4, 5, 6, 7, 8, 9, 10, 11, 12, 13], [], 0⟩])
 (.ret)), [.cell true 4 4, .t 5]⟩
def d198 : FDef := ⟨15, .seq (.reg [⟨some 3, .box 78 9 (.t 1), none⟩])
 (.seq (.reg [⟨some 4, .mv (.t 0), none⟩,
  ⟨some 5, .fad 0 (.t 3), none⟩,
  ⟨some 6, .ld true 4 (.t 5), none⟩,
  ⟨some 7, .fad 4 (.t 3), none⟩,
  ⟨some 8, .ld true 4 (.t 7), none⟩,
  ⟨some 9, .buildS 76 4 2 [.b false, .s [], .b false, .s []] [(0, 4, (.t 6)), (4, 4, (.t 8))], none⟩,
  ⟨some 10, .call 200 [(.t 4), (.t 9)], none⟩])
 (.reg [⟨some 11, .mv (.t 0), none⟩,
  ⟨some 12, .fad 8 (.t 3), none⟩,
  ⟨some 13, .ld false 1 (.t 12), none⟩,
  ⟨some 14, .call 199 [(.t 11), (.t 13)], none⟩])), []⟩
def d199 : FDef := ⟨9, .seq (.reg [⟨some 4, .mv (.c (.i .i64 (.ofNat 0))), none⟩])
 (.seq (.seq (.reg [⟨some 5, .mv (.t 1), none⟩])
 (.cond (.t 5) (.reg [⟨some 4, .mv (.c (.i .i64 (.ofNat 1))), none⟩])
 (.skip)))
 (.reg [⟨some 6, .mv (.t 0), none⟩,
  ⟨some 7, .mv (.t 4), none⟩,
  ⟨some 8, .call 90 [(.t 6), (.t 7)], none⟩])), []⟩
def d200 : FDef := ⟨21, .seq (.reg [⟨some 6, .mv (.t 1), none⟩,
  ⟨some 7, .lenS (.t 6), none⟩,
  ⟨some 8, .mv (.c (.i .i64 (.ofNat 0))), none⟩])
 (.block 0 (.loop (.seq (.reg [⟨some 9, .bin .lss (.t 8) (.t 7), none⟩])
 (.seq (.cond (.t 9) (.skip)
 (.exit 0))
 (.seq (.block 1 (.seq (.reg [⟨some 10, .iadS 4 (.t 6) (.t 8), none⟩,
  ⟨some 11, .ld true 4 (.t 10), none⟩,
  ⟨some 5, .new 76 4 [.b false, .s [], .b false, .s []], none⟩,
  ⟨none, .st 4 (.t 5) (.t 11), none⟩])
 (.seq (.reg [⟨some 12, .mv (.t 0), none⟩,
  ⟨some 13, .fad 0 (.t 5), none⟩,
  ⟨some 14, .ld true 2 (.t 13), none⟩,
  ⟨some 15, .call 223 [(.t 12), (.t 14)], none⟩])
 (.reg [⟨some 16, .mv (.t 0), none⟩,
  ⟨some 17, .fad 2 (.t 5), none⟩,
  ⟨some 18, .ld true 2 (.t 17), none⟩,
  ⟨some 19, .call 223 [(.t 16), (.t 18)], none⟩]))))
 (.reg [⟨some 20, .bin .add (.t 8) (.c (.i .i64 (.ofNat 1))), none⟩,
  ⟨some 8, .mv (.t 20), none⟩])))))), []⟩
def d201 : FDef := ⟨31, .seq (.reg [⟨some 1, .box 76 4 (.t 0), none⟩,
  ⟨some 2, .mv (.c (.i .i64 (.ofNat 0))), none⟩])
 (.seq (.seq (.reg [⟨some 3, .fad 0 (.t 1), none⟩,
  ⟨some 4, .ld true 2 (.t 3), none⟩,
  ⟨some 5, .call 224 [(.t 4)], none⟩,
  ⟨some 6, .bin .neq (.t 5) (.c (.i .i64 (.ofNat 0))), none⟩,
  ⟨some 7, .mv (.t 6), none⟩,
  ⟨some 8, .fad 2 (.t 1), (some (7, false))⟩,
  ⟨some 9, .ld true 2 (.t 8), (some (7, false))⟩,
  ⟨some 10, .call 224 [(.t 9)], (some (7, false))⟩,
  ⟨some 11, .bin .neq (.t 10) (.c (.i .i64 (.ofNat 0))), (some (7, false))⟩,
  ⟨some 12, .pick (.t 7) (.c (.b true)) (.t 11), none⟩])
 (.cond (.t 12) (.seq (.reg [⟨some 2, .mv (.c (.i .i64 (.ofNat 5))), none⟩])
 (.ret))
 (.skip)))
 (.seq (.seq (.reg [⟨some 13, .fad 2 (.t 1), none⟩,
  ⟨some 14, .ld true 2 (.t 13), none⟩,
  ⟨some 15, .build [.b false, .s []] [], none⟩,
  ⟨some 16, .eqC false [.b, .s] (.t 14) (.t 15), none⟩])
 (.cond (.t 16) (.seq (.reg [⟨some 2, .mv (.c (.i .i64 (.ofNat 0))), none⟩])
 (.ret))
 (.skip)))
 (.seq (.seq (.dreg 0 [⟨⟨some 17, .fad 2 (.t 1), none⟩, 0, [], [], 0⟩,
  ⟨⟨some 18, .ld true 2 (.t 17), none⟩, 1, [0], [], 0⟩,
  ⟨⟨some 19, .call 114 [], none⟩, 2, [], [], 0⟩,
  ⟨⟨some 20, .call 208 [(.t 18), (.t 19)], none⟩, 2, [0, 1, 2], [], 0⟩,
  ⟨⟨some 21, .bin .leq (.t 20) (.c (.i .i64 (.ofNat 0))), none⟩, 0, [0, 1, 2, 3], [], 0⟩,
  ⟨⟨some 22, .mv (.t 21), none⟩, 0, [0, 1, 2, 3, 4], [], 0⟩,
  ⟨⟨some 23, .fad 0 (.t 1), (some (22, false))⟩, 0, [0, 1, 2, 3, 4, 5], [], 0⟩,
  ⟨⟨some 24, .ld true 2 (.t 23), (some (22, false))⟩, 1, [0, 1, 2, 3, 4, 5, 6], [], 0⟩,
  ⟨⟨some 25, .fad 2 (.t 1), (some (22, false))⟩, 0, [0, 1, 2, 3, 4, 5], [], 0⟩,
  ⟨⟨some 26, .ld true 2 (.t 25), (some (22, false))⟩, 1, [0, 1, 2, 3, 4, 5, 8], [], 0⟩,
  ⟨⟨some 27, .call 112 [(.t 24), (.t 26)], (some (22, false))⟩, 2, [0, 1, 2, 3, 4, 5, 6, 7, 8, 9], [], 0⟩,
  ⟨⟨some 28, .call 114 [], (some (22, false))⟩, 2, [0, 1, 2, 3, 4, 5, 6, 7, 8, 9, 10], [], 0⟩,
  ⟨⟨some 29, .eqC true [.b, .s] (.t 27) (.t 28), (some (22, false))⟩, 0, [0, 1, 2, 3, 4, 5, 6, 7, 8, 9, 10, 11], [], 0⟩,
  ⟨⟨some 30, .pick (.t 22) (.c (.b true)) (.t 29), none⟩, 0, [0, 1, 2, 3, 4, 5, 6, 7, 8, 9, 10, 11, 12], [], 0⟩])
 (.cond (.t 30) (.seq (.reg [⟨some 2, .mv (.c (.i .i64 (.ofNat 5))), none⟩])
 (.ret))
 (.skip)))
 (.seq (.reg [⟨some 2, .mv (.c (.i .i64 (.ofNat 0))), none⟩])
 (.ret))))), [.t 2]⟩
def d202 : FDef := ⟨30, .seq (.reg [⟨some 1, .box 76 4 (.t 0), none⟩,
  ⟨some 2, .new 76 4 [.b false, .s [], .b false, .s []], none⟩,
  ⟨some 3, .mv (.c (.b false)), none⟩])
 (.seq (.reg [⟨some 9, .fad 0 (.t 1), none⟩,
  ⟨some 10, .ld true 2 (.t 9), none⟩,
  ⟨some 11, .call 225 [(.t 10)], none⟩,
  ⟨some 8, .mv (.t 11), none⟩,
  ⟨some 12, .ext 0 (.t 8), none⟩,
  ⟨some 13, .ext 1 (.t 8), none⟩,
  ⟨some 4, .new 74 2 [.b false, .s []], none⟩,
  ⟨none, .st 2 (.t 4) (.t 12), none⟩,
  ⟨some 5, .mv (.t 13), none⟩])
 (.seq (.reg [⟨some 15, .ld true 4 (.t 1), none⟩,
  ⟨some 16, .call 87 [(.t 15)], none⟩,
  ⟨some 17, .call 225 [(.t 16)], none⟩,
  ⟨some 14, .mv (.t 17), none⟩,
  ⟨some 18, .ext 0 (.t 14), none⟩,
  ⟨some 19, .ext 1 (.t 14), none⟩,
  ⟨some 6, .new 74 2 [.b false, .s []], none⟩,
  ⟨none, .st 2 (.t 6) (.t 18), none⟩,
  ⟨some 7, .mv (.t 19), none⟩])
 (.seq (.seq (.reg [⟨some 20, .mv (.t 5), none⟩,
  ⟨some 21, .un .not (.t 20), none⟩,
  ⟨some 22, .mv (.t 21), none⟩,
  ⟨some 23, .mv (.t 7), (some (22, false))⟩,
  ⟨some 24, .un .not (.t 23), (some (22, false))⟩,
  ⟨some 25, .pick (.t 22) (.c (.b true)) (.t 24), none⟩])
 (.cond (.t 25) (.seq (.reg [⟨some 26, .build [.b false, .s [], .b false, .s []] [], none⟩,
  ⟨none, .st 4 (.t 2) (.t 26), none⟩,
  ⟨some 3, .mv (.c (.b false)), none⟩])
 (.ret))
 (.skip)))
 (.seq (.reg [⟨some 27, .ld true 2 (.t 4), none⟩,
  ⟨some 28, .ld true 2 (.t 6), none⟩,
  ⟨some 29, .call 83 [(.t 27), (.t 28)], none⟩,
  ⟨none, .st 4 (.t 2) (.t 29), none⟩,
  ⟨some 3, .mv (.c (.b true)), none⟩])
 (.ret))))), [.cell true 4 2, .t 3]⟩
def d203 : FDef := ⟨8, .seq (.reg [⟨some 2, .mv (.c (.sl none 0 0 true)), none⟩])
 (.seq (.seq (.reg [⟨some 3, .mv (.t 0), none⟩,
  ⟨some 4, .eqS false (.t 3) (.c (.sl none 0 0 true)), none⟩])
 (.cond (.t 4) (.seq (.reg [⟨some 2, .mv (.c (.sl none 0 0 true)), none⟩])
 (.ret))
 (.skip)))
 (.seq (.reg [⟨some 5, .buildS 211 36 0 [.b false, .s [], .b false, .s [], .b false, .s [], .b false, .s [], .b false, .b false, .s [], .b false, .s [], .b false, .s [], .b false, .s [], .b false, .b false, .b false, .b false, .s [], .b false, .s [], .b false, .s [], .b false, .s [], .b false, .s [], .b false, .s [], .b false, .s [], .b false, .s []] [], none⟩,
  ⟨some 6, .mv (.t 0), none⟩,
  ⟨some 7, .app 211 36 408 (.t 5) (.t 6), none⟩,
  ⟨some 2, .mv (.t 7), none⟩])
 (.ret))), [.t 2]⟩
def d204 : FDef := ⟨9, .reg [⟨some 4, .mv (.t 0), none⟩,
  ⟨some 5, .mv (.t 0), none⟩,
  ⟨some 6, .lenS (.t 5), none⟩,
  ⟨some 7, .mv (.t 1), none⟩,
  ⟨some 8, .call 226 [(.t 4), (.t 6), (.t 7)], none⟩], []⟩
def d205 : FDef := ⟨31, .seq (.reg [⟨some 2, .box 211 36 (.t 0), none⟩,
  ⟨some 3, .box 211 36 (.t 1), none⟩,
  ⟨some 4, .mv (.c (.i .i64 (.ofNat 0))), none⟩])
 (.seq (.reg [⟨some 5, .mv (.c (.fn (.func 206) [] [])), none⟩])
 (.seq (.dreg 1 [⟨⟨some 6, .fad 0 (.t 2), none⟩, 0, [], [0], 0⟩,
  ⟨⟨some 7, .fad 0 (.t 6), none⟩, 0, [0], [0], 0⟩,
  ⟨⟨some 8, .ld true 9 (.t 7), none⟩, 1, [0, 1], [0], 0⟩,
  ⟨⟨some 9, .fad 0 (.t 3), none⟩, 0, [], [0], 0⟩,
  ⟨⟨some 10, .fad 0 (.t 9), none⟩, 0, [3], [0], 0⟩,
  ⟨⟨some 11, .ld true 9 (.t 10), none⟩, 1, [3, 4], [0], 0⟩,
  ⟨⟨some 12, .call 97 [(.t 8), (.t 11)], none⟩, 2, [0, 1, 2, 3, 4, 5], [0], 0⟩,
  ⟨⟨some 13, .mv (.t 5), none⟩, 0, [], [0], 0⟩,
  ⟨⟨some 14, .fad 0 (.t 2), none⟩, 0, [], [0], 0⟩,
  ⟨⟨some 15, .ld true 20 (.t 14), none⟩, 1, [8], [0], 0⟩,
  ⟨⟨some 16, .callV (.t 13) [(.t 15)], none⟩, 2, [0, 1, 2, 3, 4, 5, 6, 7, 8, 9], [0], 0⟩,
  ⟨⟨some 17, .mv (.t 5), none⟩, 0, [], [0], 0⟩,
  ⟨⟨some 18, .fad 0 (.t 3), none⟩, 0, [], [0], 0⟩,
  ⟨⟨some 19, .ld true 20 (.t 18), none⟩, 1, [12], [0], 0⟩,
  ⟨⟨some 20, .callV (.t 17) [(.t 19)], none⟩, 2, [0, 1, 2, 3, 4, 5, 6, 7, 8, 9, 10, 11, 12, 13], [0], 0⟩,
  ⟨⟨some 21, .call 60 [(.t 16), (.t 20)], none⟩, 2, [0, 1, 2, 3, 4, 5, 6, 7, 8, 9, 10, 11, 12, 13, 14], [0], 0⟩,
  ⟨⟨some 22, .fad 0 (.t 2), none⟩, 0, [], [0], 0⟩,
  ⟨⟨some 23, .fad 9 (.t 22), none⟩, 0, [16], [0], 0⟩,
  ⟨⟨some 24, .ld true 9 (.t 23), none⟩, 1, [16, 17], [0], 0⟩,
  ⟨⟨some 25, .fad 0 (.t 3), none⟩, 0, [], [0], 0⟩,
  ⟨⟨some 26, .fad 9 (.t 25), none⟩, 0, [19], [0], 0⟩,
  ⟨⟨some 27, .ld true 9 (.t 26), none⟩, 1, [19, 20], [0], 0⟩,
  ⟨⟨some 28, .call 97 [(.t 24), (.t 27)], none⟩, 2, [0, 1, 2, 3, 4, 5, 6, 7, 8, 9, 10, 11, 12, 13, 14, 15, 16, 17, 18, 19, 20, 21], [0], 0⟩,
  ⟨⟨some 29, .buildS 3 1 3 [.i .i64 (.ofNat 0)] [(0, 1, (.t 12)), (1, 1, (.t 21)), (2, 1, (.t 28))], none⟩, 3, [0, 1, 2, 3, 4, 5, 6, 7, 8, 9, 10, 11, 12, 13, 14, 15, 16, 17, 18, 19, 20, 21, 22], [0], 0⟩,
  ⟨⟨some 30, .call 159 [(.t 29)], none⟩, 2, [0, 1, 2, 3, 4, 5, 6, 7, 8, 9, 10, 11, 12, 13, 14, 15, 16, 17, 18, 19, 20, 21, 22, 23], [], 0⟩,
  ⟨⟨some 4, .mv (.t 30), none⟩, 0, [0, 1, 2, 3, 4, 5, 6, 7, 8, 9, 10, 11, 12, 13, 14, 15, 16, 17, 18, 19, 20, 21, 22, 23, 24], [], 0⟩])
 (.ret))), [.t 4]⟩
def d206 : FDef := ⟨5, .seq (.reg [⟨some 1, .box 80 20 (.t 0), none⟩,
  ⟨some 2, .mv (.c (.i .i64 (.ofNat 0))), none⟩])
 (.seq (.seq (.reg [⟨some 3, .fad 18 (.t 1), none⟩,
  ⟨some 4, .ld false 1 (.t 3), none⟩])
 (.cond (.t 4) (.seq (.reg [⟨some 2, .mv (.c (.i .i64 (.ofNat 1))), none⟩])
 (.ret))
 (.skip)))
 (.seq (.reg [⟨some 2, .mv (.c (.i .i64 (.ofNat 0))), none⟩])
 (.ret))), [.t 2]⟩
def d207 : FDef := ⟨13, .seq (.reg [⟨some 3, .box 78 9 (.t 0), none⟩,
  ⟨some 4, .box 82 16 (.t 1), none⟩])
 (.reg [⟨some 5, .ld false 1 (.t 2), none⟩,
  ⟨some 6, .ld true 9 (.t 3), none⟩,
  ⟨some 7, .ld true 9 (.t 3), none⟩,
  ⟨some 8, .build [.b false, .s [], .b false, .s [], .b false, .s [], .b false, .s [], .b false, .b false, .s [], .b false, .s [], .b false, .s [], .b false, .s [], .b false, .b false, .b false] [(0, 9, (.t 6)), (9, 9, (.t 7))], none⟩,
  ⟨some 9, .ld true 16 (.t 4), none⟩,
  ⟨some 10, .build [.b false, .s [], .b false, .s [], .b false, .s [], .b false, .s [], .b false, .b false, .s [], .b false, .s [], .b false, .s [], .b false, .s [], .b false, .b false, .b false, .b false, .s [], .b false, .s [], .b false, .s [], .b false, .s [], .b false, .s [], .b false, .s [], .b false, .s [], .b false, .s []] [(0, 20, (.t 8)), (20, 16, (.t 9))], none⟩,
  ⟨some 11, .buildS 211 36 1 [.b false, .s [], .b false, .s [], .b false, .s [], .b false, .s [], .b false, .b false, .s [], .b false, .s [], .b false, .s [], .b false, .s [], .b false, .b false, .b false, .b false, .s [], .b false, .s [], .b false, .s [], .b false, .s [], .b false, .s [], .b false, .s [], .b false, .s [], .b false, .s []] [(0, 36, (.t 10))], none⟩,
  ⟨some 12, .app 211 36 408 (.t 5) (.t 11), none⟩,
  ⟨none, .st 1 (.t 2) (.t 12), none⟩]), []⟩
def d208 : FDef := ⟨26, .seq (.reg [⟨some 2, .box 74 2 (.t 0), none⟩,
  ⟨some 3, .box 74 2 (.t 1), none⟩,
  ⟨some 4, .mv (.c (.i .i64 (.ofNat 0))), none⟩])
 (.seq (.seq (.reg [⟨some 6, .fad 0 (.t 2), none⟩,
  ⟨some 7, .ld false 1 (.t 6), none⟩,
  ⟨some 8, .fad 0 (.t 3), none⟩,
  ⟨some 9, .ld false 1 (.t 8), none⟩,
  ⟨some 10, .eqB true (.t 7) (.t 9), none⟩])
 (.cond (.t 10) (.seq (.dreg 0 [⟨⟨some 11, .ld true 2 (.t 2), none⟩, 1, [], [], 0⟩,
  ⟨⟨some 12, .call 110 [(.t 11)], none⟩, 2, [0], [], 0⟩,
  ⟨⟨some 13, .ld true 2 (.t 3), none⟩, 1, [], [], 0⟩,
  ⟨⟨some 14, .call 110 [(.t 13)], none⟩, 2, [0, 1, 2], [], 0⟩,
  ⟨⟨some 15, .call 60 [(.t 12), (.t 14)], none⟩, 2, [0, 1, 2, 3], [], 0⟩,
  ⟨⟨some 4, .mv (.t 15), none⟩, 0, [0, 1, 2, 3, 4], [], 0⟩])
 (.ret))
 (.skip)))
 (.seq (.reg [⟨some 16, .fad 1 (.t 2), none⟩,
  ⟨some 17, .ld false 1 (.t 16), none⟩,
  ⟨some 18, .fad 1 (.t 3), none⟩,
  ⟨some 19, .ld false 1 (.t 18), none⟩,
  ⟨some 20, .call 117 [(.t 17), (.t 19)], none⟩,
  ⟨some 5, .mv (.t 20), none⟩])
 (.seq (.seq (.reg [⟨some 21, .fad 0 (.t 2), none⟩,
  ⟨some 22, .ld false 1 (.t 21), none⟩])
 (.cond (.t 22) (.seq (.reg [⟨some 23, .mv (.t 5), none⟩,
  ⟨some 24, .un .neg (.t 23), none⟩,
  ⟨some 4, .mv (.t 24), none⟩])
 (.ret))
 (.skip)))
 (.seq (.reg [⟨some 25, .mv (.t 5), none⟩,
  ⟨some 4, .mv (.t 25), none⟩])
 (.ret))))), [.t 4]⟩
def d209 : FDef := ⟨6, .seq (.reg [⟨some 2, .mv (.c (.i .i64 (.ofNat 0))), none⟩])
 (.seq (.reg [⟨some 3, .mv (.t 0), none⟩,
  ⟨some 4, .idxT (.c (.s [0, 1, 2, 2, 3, 3, 3, 3, 4, 4, 4, 4, 4, 4, 4, 4, 5, 5, 5, 5, 5, 5, 5, 5, 5, 5, 5, 5, 5, 5, 5, 5, 6, 6, 6, 6, 6, 6, 6, 6, 6, 6, 6, 6, 6, 6, 6, 6, 6, 6, 6, 6, 6, 6, 6, 6, 6, 6, 6, 6, 6, 6, 6, 6, 7, 7, 7, 7, 7, 7, 7, 7, 7, 7, 7, 7, 7, 7, 7, 7, 7, 7, 7, 7, 7, 7, 7, 7, 7, 7, 7, 7, 7, 7, 7, 7, 7, 7, 7, 7, 7, 7, 7, 7, 7, 7, 7, 7, 7, 7, 7, 7, 7, 7, 7, 7, 7, 7, 7, 7, 7, 7, 7, 7, 7, 7, 7, 7, 8, 8, 8, 8, 8, 8, 8, 8, 8, 8, 8, 8, 8, 8, 8, 8, 8, 8, 8, 8, 8, 8, 8, 8, 8, 8, 8, 8, 8, 8, 8, 8, 8, 8, 8, 8, 8, 8, 8, 8, 8, 8, 8, 8, 8, 8, 8, 8, 8, 8, 8, 8, 8, 8, 8, 8, 8, 8, 8, 8, 8, 8, 8, 8, 8, 8, 8, 8, 8, 8, 8, 8, 8, 8, 8, 8, 8, 8, 8, 8, 8, 8, 8, 8, 8, 8, 8, 8, 8, 8, 8, 8, 8, 8, 8, 8, 8, 8, 8, 8, 8, 8, 8, 8, 8, 8, 8, 8, 8, 8, 8, 8, 8, 8, 8, 8, 8, 8, 8, 8, 8, 8, 8, 8, 8, 8, 8, 8])) (.t 3), none⟩,
  ⟨some 5, .conv .i64 (.t 4), none⟩,
  ⟨some 2, .mv (.t 5), none⟩])
 (.ret)), [.t 2]⟩
def d210 : FDef := ⟨125, .seq (.reg [⟨some 4, .mv (.c (.s [])), none⟩])
 (.seq (.seq (.reg [⟨some 11, .mv (.t 1), none⟩])
 (.block 0 (.seq (.reg [⟨some 13, .bin .eql (.t 11) (.c (.i .i64 (.ofNat 0))), none⟩,
  ⟨some 12, .mv (.t 13), none⟩])
 (.cond (.t 12) (.seq (.reg [⟨some 4, .mv (.c (.s [])), none⟩])
 (.ret))
 (.seq (.reg [⟨some 15, .bin .eql (.t 11) (.c (.i .i64 (.ofNat 1))), none⟩,
  ⟨some 14, .mv (.t 15), none⟩])
 (.cond (.t 14) (.seq (.reg [⟨some 16, .mv (.t 0), none⟩,
  ⟨some 4, .mv (.t 16), none⟩])
 (.ret))
 (.skip)))))))
 (.seq (.seq (.reg [⟨some 17, .mv (.t 1), none⟩,
  ⟨some 18, .bin .lss (.t 17) (.c (.i .i64 (.ofNat 0))), none⟩])
 (.cond (.t 18) (.bad)
 (.skip)))
 (.seq (.reg [⟨some 21, .mv (.t 0), none⟩,
  ⟨some 22, .lenT (.t 21), none⟩,
  ⟨some 23, .conv .u64 (.t 22), none⟩,
  ⟨some 24, .mv (.t 1), none⟩,
  ⟨some 25, .conv .u64 (.t 24), none⟩,
  ⟨some 26, .call 227 [(.t 23), (.t 25)], none⟩,
  ⟨some 20, .mv (.t 26), none⟩,
  ⟨some 27, .ext 0 (.t 20), none⟩,
  ⟨some 28, .ext 1 (.t 20), none⟩,
  ⟨some 5, .mv (.t 27), none⟩,
  ⟨some 6, .mv (.t 28), none⟩])
 (.seq (.seq (.reg [⟨some 29, .mv (.t 5), none⟩,
  ⟨some 30, .bin .gtr (.t 29) (.c (.i .u64 (.ofNat 0))), none⟩,
  ⟨some 31, .mv (.t 30), none⟩,
  ⟨some 32, .mv (.t 6), (some (31, false))⟩,
  ⟨some 33, .bin .gtr (.t 32) (.c (.i .u64 (.ofNat 9223372036854775807))), (some (31, false))⟩,
  ⟨some 34, .pick (.t 31) (.c (.b true)) (.t 33), none⟩])
 (.cond (.t 34) (.bad)
 (.skip)))
 (.seq (.reg [⟨some 36, .mv (.t 6), none⟩,
  ⟨some 37, .conv .i64 (.t 36), none⟩,
  ⟨some 7, .mv (.t 37), none⟩])
 (.seq (.seq (.reg [⟨some 38, .mv (.t 0), none⟩,
  ⟨some 39, .lenT (.t 38), none⟩,
  ⟨some 40, .bin .eql (.t 39) (.c (.i .i64 (.ofNat 0))), none⟩])
 (.cond (.t 40) (.seq (.reg [⟨some 4, .mv (.c (.s [])), none⟩])
 (.ret))
 (.skip)))
 (.seq (.seq (.reg [⟨some 41, .mv (.t 0), none⟩,
  ⟨some 42, .idxT (.t 41) (.c (.i .i64 (.ofNat 0))), none⟩])
 (.block 1 (.seq (.seq (.reg [⟨some 44, .bin .eql (.t 42) (.c (.i .u8 (.ofNat 32))), none⟩,
  ⟨some 43, .mv (.t 44), none⟩])
 (.cond (.t 43) (.skip)
 (.seq (.reg [⟨some 45, .bin .eql (.t 42) (.c (.i .u8 (.ofNat 45))), none⟩,
  ⟨some 43, .mv (.t 45), none⟩])
 (.cond (.t 43) (.skip)
 (.seq (.reg [⟨some 46, .bin .eql (.t 42) (.c (.i .u8 (.ofNat 48))), none⟩,
  ⟨some 43, .mv (.t 46), none⟩])
 (.cond (.t 43) (.skip)
 (.seq (.reg [⟨some 47, .bin .eql (.t 42) (.c (.i .u8 (.ofNat 61))), none⟩,
  ⟨some 43, .mv (.t 47), none⟩])
 (.cond (.t 43) (.skip)
 (.reg [⟨some 48, .bin .eql (.t 42) (.c (.i .u8 (.ofNat 9))), none⟩,
  ⟨some 43, .mv (.t 48), none⟩])))))))))
 (.cond (.t 43) (.block 2 (.seq (.reg [⟨some 50, .mv (.t 7), none⟩,
  ⟨some 51, .bin .leq (.t 50) (.c (.i .i64 (.ofNat 128))), none⟩,
  ⟨some 52, .mv (.t 51), none⟩,
  ⟨some 53, .mv (.t 0), (some (52, true))⟩,
  ⟨some 54, .call 103 [(.c (.s [32, 32, 32, 32, 32, 32, 32, 32, 32, 32, 32, 32, 32, 32, 32, 32, 32, 32, 32, 32, 32, 32, 32, 32, 32, 32, 32, 32, 32, 32, 32, 32, 32, 32, 32, 32, 32, 32, 32, 32, 32, 32, 32, 32, 32, 32, 32, 32, 32, 32, 32, 32, 32, 32, 32, 32, 32, 32, 32, 32, 32, 32, 32, 32, 32, 32, 32, 32, 32, 32, 32, 32, 32, 32, 32, 32, 32, 32, 32, 32, 32, 32, 32, 32, 32, 32, 32, 32, 32, 32, 32, 32, 32, 32, 32, 32, 32, 32, 32, 32, 32, 32, 32, 32, 32, 32, 32, 32, 32, 32, 32, 32, 32, 32, 32, 32, 32, 32, 32, 32, 32, 32, 32, 32, 32, 32, 32, 32])), (.t 53)], (some (52, true))⟩,
  ⟨some 55, .pick (.t 52) (.t 54) (.c (.b false)), none⟩,
  ⟨some 49, .mv (.t 55), none⟩])
 (.cond (.t 49) (.seq (.reg [⟨some 56, .mv (.t 7), none⟩,
  ⟨some 57, .slcT (.c (.s [32, 32, 32, 32, 32, 32, 32, 32, 32, 32, 32, 32, 32, 32, 32, 32, 32, 32, 32, 32, 32, 32, 32, 32, 32, 32, 32, 32, 32, 32, 32, 32, 32, 32, 32, 32, 32, 32, 32, 32, 32, 32, 32, 32, 32, 32, 32, 32, 32, 32, 32, 32, 32, 32, 32, 32, 32, 32, 32, 32, 32, 32, 32, 32, 32, 32, 32, 32, 32, 32, 32, 32, 32, 32, 32, 32, 32, 32, 32, 32, 32, 32, 32, 32, 32, 32, 32, 32, 32, 32, 32, 32, 32, 32, 32, 32, 32, 32, 32, 32, 32, 32, 32, 32, 32, 32, 32, 32, 32, 32, 32, 32, 32, 32, 32, 32, 32, 32, 32, 32, 32, 32, 32, 32, 32, 32, 32, 32])) none (some (.t 56)), none⟩,
  ⟨some 4, .mv (.t 57), none⟩])
 (.ret))
 (.seq (.reg [⟨some 59, .mv (.t 7), none⟩,
  ⟨some 60, .bin .leq (.t 59) (.c (.i .i64 (.ofNat 128))), none⟩,
  ⟨some 61, .mv (.t 60), none⟩,
  ⟨some 62, .mv (.t 0), (some (61, true))⟩,
  ⟨some 63, .call 103 [(.c (.s [45, 45, 45, 45, 45, 45, 45, 45, 45, 45, 45, 45, 45, 45, 45, 45, 45, 45, 45, 45, 45, 45, 45, 45, 45, 45, 45, 45, 45, 45, 45, 45, 45, 45, 45, 45, 45, 45, 45, 45, 45, 45, 45, 45, 45, 45, 45, 45, 45, 45, 45, 45, 45, 45, 45, 45, 45, 45, 45, 45, 45, 45, 45, 45, 45, 45, 45, 45, 45, 45, 45, 45, 45, 45, 45, 45, 45, 45, 45, 45, 45, 45, 45, 45, 45, 45, 45, 45, 45, 45, 45, 45, 45, 45, 45, 45, 45, 45, 45, 45, 45, 45, 45, 45, 45, 45, 45, 45, 45, 45, 45, 45, 45, 45, 45, 45, 45, 45, 45, 45, 45, 45, 45, 45, 45, 45, 45, 45])), (.t 62)], (some (61, true))⟩,
  ⟨some 64, .pick (.t 61) (.t 63) (.c (.b false)), none⟩,
  ⟨some 58, .mv (.t 64), none⟩])
 (.cond (.t 58) (.seq (.reg [⟨some 65, .mv (.t 7), none⟩,
  ⟨some 66, .slcT (.c (.s [45, 45, 45, 45, 45, 45, 45, 45, 45, 45, 45, 45, 45, 45, 45, 45, 45, 45, 45, 45, 45, 45, 45, 45, 45, 45, 45, 45, 45, 45, 45, 45, 45, 45, 45, 45, 45, 45, 45, 45, 45, 45, 45, 45, 45, 45, 45, 45, 45, 45, 45, 45, 45, 45, 45, 45, 45, 45, 45, 45, 45, 45, 45, 45, 45, 45, 45, 45, 45, 45, 45, 45, 45, 45, 45, 45, 45, 45, 45, 45, 45, 45, 45, 45, 45, 45, 45, 45, 45, 45, 45, 45, 45, 45, 45, 45, 45, 45, 45, 45, 45, 45, 45, 45, 45, 45, 45, 45, 45, 45, 45, 45, 45, 45, 45, 45, 45, 45, 45, 45, 45, 45, 45, 45, 45, 45, 45, 45])) none (some (.t 65)), none⟩,
  ⟨some 4, .mv (.t 66), none⟩])
 (.ret))
 (.seq (.reg [⟨some 68, .mv (.t 7), none⟩,
  ⟨some 69, .bin .leq (.t 68) (.c (.i .i64 (.ofNat 64))), none⟩,
  ⟨some 70, .mv (.t 69), none⟩,
  ⟨some 71, .mv (.t 0), (some (70, true))⟩,
  ⟨some 72, .call 103 [(.c (.s [48, 48, 48, 48, 48, 48, 48, 48, 48, 48, 48, 48, 48, 48, 48, 48, 48, 48, 48, 48, 48, 48, 48, 48, 48, 48, 48, 48, 48, 48, 48, 48, 48, 48, 48, 48, 48, 48, 48, 48, 48, 48, 48, 48, 48, 48, 48, 48, 48, 48, 48, 48, 48, 48, 48, 48, 48, 48, 48, 48, 48, 48, 48, 48])), (.t 71)], (some (70, true))⟩,
  ⟨some 73, .pick (.t 70) (.t 72) (.c (.b false)), none⟩,
  ⟨some 67, .mv (.t 73), none⟩])
 (.cond (.t 67) (.seq (.reg [⟨some 74, .mv (.t 7), none⟩,
  ⟨some 75, .slcT (.c (.s [48, 48, 48, 48, 48, 48, 48, 48, 48, 48, 48, 48, 48, 48, 48, 48, 48, 48, 48, 48, 48, 48, 48, 48, 48, 48, 48, 48, 48, 48, 48, 48, 48, 48, 48, 48, 48, 48, 48, 48, 48, 48, 48, 48, 48, 48, 48, 48, 48, 48, 48, 48, 48, 48, 48, 48, 48, 48, 48, 48, 48, 48, 48, 48])) none (some (.t 74)), none⟩,
  ⟨some 4, .mv (.t 75), none⟩])
 (.ret))
 (.seq (.reg [⟨some 77, .mv (.t 7), none⟩,
  ⟨some 78, .bin .leq (.t 77) (.c (.i .i64 (.ofNat 128))), none⟩,
  ⟨some 79, .mv (.t 78), none⟩,
  ⟨some 80, .mv (.t 0), (some (79, true))⟩,
  ⟨some 81, .call 103 [(.c (.s [61, 61, 61, 61, 61, 61, 61, 61, 61, 61, 61, 61, 61, 61, 61, 61, 61, 61, 61, 61, 61, 61, 61, 61, 61, 61, 61, 61, 61, 61, 61, 61, 61, 61, 61, 61, 61, 61, 61, 61, 61, 61, 61, 61, 61, 61, 61, 61, 61, 61, 61, 61, 61, 61, 61, 61, 61, 61, 61, 61, 61, 61, 61, 61, 61, 61, 61, 61, 61, 61, 61, 61, 61, 61, 61, 61, 61, 61, 61, 61, 61, 61, 61, 61, 61, 61, 61, 61, 61, 61, 61, 61, 61, 61, 61, 61, 61, 61, 61, 61, 61, 61, 61, 61, 61, 61, 61, 61, 61, 61, 61, 61, 61, 61, 61, 61, 61, 61, 61, 61, 61, 61, 61, 61, 61, 61, 61, 61])), (.t 80)], (some (79, true))⟩,
  ⟨some 82, .pick (.t 79) (.t 81) (.c (.b false)), none⟩,
  ⟨some 76, .mv (.t 82), none⟩])
 (.cond (.t 76) (.seq (.reg [⟨some 83, .mv (.t 7), none⟩,
  ⟨some 84, .slcT (.c (.s [61, 61, 61, 61, 61, 61, 61, 61, 61, 61, 61, 61, 61, 61, 61, 61, 61, 61, 61, 61, 61, 61, 61, 61, 61, 61, 61, 61, 61, 61, 61, 61, 61, 61, 61, 61, 61, 61, 61, 61, 61, 61, 61, 61, 61, 61, 61, 61, 61, 61, 61, 61, 61, 61, 61, 61, 61, 61, 61, 61, 61, 61, 61, 61, 61, 61, 61, 61, 61, 61, 61, 61, 61, 61, 61, 61, 61, 61, 61, 61, 61, 61, 61, 61, 61, 61, 61, 61, 61, 61, 61, 61, 61, 61, 61, 61, 61, 61, 61, 61, 61, 61, 61, 61, 61, 61, 61, 61, 61, 61, 61, 61, 61, 61, 61, 61, 61, 61, 61, 61, 61, 61, 61, 61, 61, 61, 61, 61])) none (some (.t 83)), none⟩,
  ⟨some 4, .mv (.t 84), none⟩])
 (.ret))
 (.seq (.reg [⟨some 86, .mv (.t 7), none⟩,
  ⟨some 87, .bin .leq (.t 86) (.c (.i .i64 (.ofNat 64))), none⟩,
  ⟨some 88, .mv (.t 87), none⟩,
  ⟨some 89, .mv (.t 0), (some (88, true))⟩,
  ⟨some 90, .call 103 [(.c (.s [9, 9, 9, 9, 9, 9, 9, 9, 9, 9, 9, 9, 9, 9, 9, 9, 9, 9, 9, 9, 9, 9, 9, 9, 9, 9, 9, 9, 9, 9, 9, 9, 9, 9, 9, 9, 9, 9, 9, 9, 9, 9, 9, 9, 9, 9, 9, 9, 9, 9, 9, 9, 9, 9, 9, 9, 9, 9, 9, 9, 9, 9, 9, 9])), (.t 89)], (some (88, true))⟩,
  ⟨some 91, .pick (.t 88) (.t 90) (.c (.b false)), none⟩,
  ⟨some 85, .mv (.t 91), none⟩])
 (.cond (.t 85) (.seq (.reg [⟨some 92, .mv (.t 7), none⟩,
  ⟨some 93, .slcT (.c (.s [9, 9, 9, 9, 9, 9, 9, 9, 9, 9, 9, 9, 9, 9, 9, 9, 9, 9, 9, 9, 9, 9, 9, 9, 9, 9, 9, 9, 9, 9, 9, 9, 9, 9, 9, 9, 9, 9, 9, 9, 9, 9, 9, 9, 9, 9, 9, 9, 9, 9, 9, 9, 9, 9, 9, 9, 9, 9, 9, 9, 9, 9, 9, 9])) none (some (.t 92)), none⟩,
  ⟨some 4, .mv (.t 93), none⟩])
 (.ret))
 (.skip))))))))))))
 (.skip)))))
 (.seq (.reg [⟨some 94, .mv (.t 7), none⟩,
  ⟨some 8, .mv (.t 94), none⟩])
 (.seq (.seq (.reg [⟨some 95, .mv (.t 7), none⟩,
  ⟨some 96, .bin .gtr (.t 95) (.c (.i .i64 (.ofNat 8192))), none⟩])
 (.cond (.t 96) (.seq (.reg [⟨some 97, .mv (.t 0), none⟩,
  ⟨some 98, .lenT (.t 97), none⟩,
  ⟨some 99, .bin .quo (.c (.i .i64 (.ofNat 8192))) (.t 98), none⟩,
  ⟨some 100, .mv (.t 0), none⟩,
  ⟨some 101, .lenT (.t 100), none⟩,
  ⟨some 102, .bin .mul (.t 99) (.t 101), none⟩,
  ⟨some 8, .mv (.t 102), none⟩])
 (.seq (.reg [⟨some 103, .mv (.t 8), none⟩,
  ⟨some 104, .bin .eql (.t 103) (.c (.i .i64 (.ofNat 0))), none⟩])
 (.cond (.t 104) (.reg [⟨some 105, .mv (.t 0), none⟩,
  ⟨some 106, .lenT (.t 105), none⟩,
  ⟨some 8, .mv (.t 106), none⟩])
 (.skip))))
 (.skip)))
 (.seq (.reg [⟨some 9, .new 109 2 [.p none, .sl none 0 0 true], none⟩])
 (.seq (.reg [⟨some 107, .mv (.t 7), none⟩,
  ⟨some 108, .call 228 [(.t 9), (.t 107)], none⟩])
 (.seq (.reg [⟨some 109, .mv (.t 0), none⟩,
  ⟨some 110, .call 46 [(.t 9), (.t 109)], none⟩])
 (.seq (.block 3 (.loop (.seq (.seq (.reg [⟨some 111, .call 54 [(.t 9)], none⟩,
  ⟨some 112, .mv (.t 7), none⟩,
  ⟨some 113, .bin .lss (.t 111) (.t 112), none⟩])
 (.cond (.t 113) (.skip)
 (.exit 3)))
 (.block 4 (.seq (.bad)
 (.reg [⟨some 120, .call 55 [(.t 9)], none⟩,
  ⟨some 121, .mv (.t 10), none⟩,
  ⟨some 122, .slcT (.t 120) none (some (.t 121)), none⟩,
  ⟨some 123, .call 46 [(.t 9), (.t 122)], none⟩]))))))
 (.seq (.reg [⟨some 124, .call 55 [(.t 9)], none⟩,
  ⟨some 4, .mv (.t 124), none⟩])
 (.ret))))))))))))))), [.t 4]⟩
def d211 : FDef := ⟨13, .seq (.reg [⟨some 4, .mv (.t 0), none⟩,
  ⟨some 5, .nilChk (.t 4), none⟩,
  ⟨some 6, .fad 2 (.t 5), none⟩,
  ⟨some 7, .ld false 1 (.t 6), none⟩,
  ⟨some 8, .bin .eql (.t 7) (.c (.i .i64 (.ofNat 0))), none⟩])
 (.cond (.t 8) (.reg [⟨some 9, .mv (.t 0), none⟩,
  ⟨some 10, .mv (.t 1), none⟩,
  ⟨some 11, .nilChk (.t 9), none⟩,
  ⟨some 12, .fad 2 (.t 11), none⟩,
  ⟨none, .st 1 (.t 12) (.t 10), none⟩])
 (.skip)), []⟩
def d212 : FDef := ⟨32, .seq (.reg [⟨some 2, .mv (.c (.i .i64 (.ofNat 0))), none⟩])
 (.seq (.reg [⟨some 4, .mv (.t 0), none⟩,
  ⟨some 5, .call 186 [(.t 4)], none⟩,
  ⟨some 3, .mv (.t 5), none⟩])
 (.seq (.block 0 (.seq (.reg [⟨some 7, .mv (.t 3), none⟩,
  ⟨some 8, .bin .lss (.t 7) (.c (.i .i64 (.ofNat 0))), none⟩,
  ⟨some 6, .mv (.t 8), none⟩])
 (.cond (.t 6) (.reg [⟨some 9, .mv (.t 0), none⟩,
  ⟨some 10, .call 211 [(.t 9), (.c (.i .i64 (.ofNat 5)))], none⟩])
 (.seq (.dreg 0 [⟨⟨some 12, .mv (.t 3), none⟩, 0, [], [], 0⟩,
  ⟨⟨some 13, .mv (.t 0), none⟩, 0, [], [], 0⟩,
  ⟨⟨some 14, .nilChk (.t 13), none⟩, 0, [1], [], 0⟩,
  ⟨⟨some 15, .fad 0 (.t 14), none⟩, 0, [1, 2], [], 0⟩,
  ⟨⟨some 16, .ld false 1 (.t 15), none⟩, 1, [1, 2, 3], [], 0⟩,
  ⟨⟨some 17, .lenT (.t 16), none⟩, 0, [1, 2, 3, 4], [], 0⟩,
  ⟨⟨some 18, .mv (.t 0), none⟩, 0, [], [], 0⟩,
  ⟨⟨some 19, .nilChk (.t 18), none⟩, 0, [6], [], 0⟩,
  ⟨⟨some 20, .fad 1 (.t 19), none⟩, 0, [6, 7], [], 0⟩,
  ⟨⟨some 21, .ld false 1 (.t 20), none⟩, 1, [6, 7, 8], [], 0⟩,
  ⟨⟨some 22, .bin .sub (.t 17) (.t 21), none⟩, 0, [1, 2, 3, 4, 5, 6, 7, 8, 9], [], 0⟩,
  ⟨⟨some 23, .bin .gtr (.t 12) (.t 22), none⟩, 0, [0, 1, 2, 3, 4, 5, 6, 7, 8, 9, 10], [], 0⟩,
  ⟨⟨some 11, .mv (.t 23), none⟩, 0, [0, 1, 2, 3, 4, 5, 6, 7, 8, 9, 10, 11], [], 0⟩])
 (.cond (.t 11) (.reg [⟨some 24, .mv (.t 0), none⟩,
  ⟨some 25, .call 211 [(.t 24), (.c (.i .i64 (.ofNat 22)))], none⟩])
 (.skip))))))
 (.seq (.seq (.reg [⟨some 26, .mv (.t 0), none⟩,
  ⟨some 27, .nilChk (.t 26), none⟩,
  ⟨some 28, .fad 2 (.t 27), none⟩,
  ⟨some 29, .ld false 1 (.t 28), none⟩,
  ⟨some 30, .bin .neq (.t 29) (.c (.i .i64 (.ofNat 0))), none⟩])
 (.cond (.t 30) (.seq (.reg [⟨some 2, .mv (.c (.i .i64 (.ofNat 0))), none⟩])
 (.ret))
 (.skip)))
 (.seq (.reg [⟨some 31, .mv (.t 3), none⟩,
  ⟨some 2, .mv (.t 31), none⟩])
 (.ret))))), [.t 2]⟩
def d213 : FDef := ⟨14, .seq (.reg [⟨some 2, .new 78 9 [.b false, .s [], .b false, .s [], .b false, .s [], .b false, .s [], .b false], none⟩])
 (.seq (.reg [⟨some 5, .mv (.t 0), none⟩,
  ⟨some 6, .call 215 [(.t 5)], none⟩,
  ⟨some 3, .new 76 4 [.b false, .s [], .b false, .s []], none⟩,
  ⟨none, .st 4 (.t 3) (.t 6), none⟩])
 (.seq (.reg [⟨some 7, .mv (.t 0), none⟩,
  ⟨some 8, .call 215 [(.t 7)], none⟩,
  ⟨some 4, .new 76 4 [.b false, .s [], .b false, .s []], none⟩,
  ⟨none, .st 4 (.t 4) (.t 8), none⟩])
 (.seq (.dreg 0 [⟨⟨some 9, .ld true 4 (.t 3), none⟩, 1, [], [], 0⟩,
  ⟨⟨some 10, .ld true 4 (.t 4), none⟩, 1, [], [], 0⟩,
  ⟨⟨some 11, .mv (.t 0), none⟩, 0, [], [], 0⟩,
  ⟨⟨some 12, .call 214 [(.t 11)], none⟩, 2, [2], [], 0⟩,
  ⟨⟨some 13, .build [.b false, .s [], .b false, .s [], .b false, .s [], .b false, .s [], .b false] [(0, 4, (.t 9)), (4, 4, (.t 10)), (8, 1, (.t 12))], none⟩, 0, [0, 1, 2, 3], [], 0⟩,
  ⟨⟨none, .st 9 (.t 2) (.t 13), none⟩, 2, [0, 1, 2, 3, 4], [], 0⟩])
 (.ret)))), [.cell true 9 2]⟩
def d214 : FDef := ⟨16, .seq (.reg [⟨some 2, .mv (.c (.b false)), none⟩])
 (.seq (.reg [⟨some 4, .mv (.t 0), none⟩,
  ⟨some 5, .call 186 [(.t 4)], none⟩,
  ⟨some 3, .mv (.t 5), none⟩])
 (.seq (.seq (.reg [⟨some 6, .mv (.t 3), none⟩,
  ⟨some 7, .bin .neq (.t 6) (.c (.i .i64 (.ofNat 0))), none⟩,
  ⟨some 8, .mv (.t 7), none⟩,
  ⟨some 9, .mv (.t 3), (some (8, true))⟩,
  ⟨some 10, .bin .neq (.t 9) (.c (.i .i64 (.ofNat 1))), (some (8, true))⟩,
  ⟨some 11, .pick (.t 8) (.t 10) (.c (.b false)), none⟩])
 (.cond (.t 11) (.reg [⟨some 12, .mv (.t 0), none⟩,
  ⟨some 13, .call 211 [(.t 12), (.c (.i .i64 (.ofNat 5)))], none⟩])
 (.skip)))
 (.seq (.reg [⟨some 14, .mv (.t 3), none⟩,
  ⟨some 15, .bin .eql (.t 14) (.c (.i .i64 (.ofNat 1))), none⟩,
  ⟨some 2, .mv (.t 15), none⟩])
 (.ret)))), [.t 2]⟩
def d215 : FDef := ⟨10, .seq (.reg [⟨some 2, .new 76 4 [.b false, .s [], .b false, .s []], none⟩])
 (.seq (.reg [⟨some 4, .mv (.t 0), none⟩,
  ⟨some 5, .call 229 [(.t 4)], none⟩,
  ⟨some 3, .new 74 2 [.b false, .s []], none⟩,
  ⟨none, .st 2 (.t 3) (.t 5), none⟩])
 (.seq (.dreg 0 [⟨⟨some 6, .ld true 2 (.t 3), none⟩, 1, [], [], 0⟩,
  ⟨⟨some 7, .mv (.t 0), none⟩, 0, [], [], 0⟩,
  ⟨⟨some 8, .call 229 [(.t 7)], none⟩, 2, [1], [], 0⟩,
  ⟨⟨some 9, .build [.b false, .s [], .b false, .s []] [(0, 2, (.t 6)), (2, 2, (.t 8))], none⟩, 0, [0, 1, 2], [], 0⟩,
  ⟨⟨none, .st 4 (.t 2) (.t 9), none⟩, 2, [0, 1, 2, 3], [], 0⟩])
 (.ret))), [.cell true 4 2]⟩
def d216 : FDef := ⟨19, .seq (.reg [⟨some 2, .mv (.c (.i .i64 (.ofNat 0))), none⟩])
 (.seq (.seq (.reg [⟨some 3, .mv (.t 0), none⟩,
  ⟨some 4, .bin .geq (.t 3) (.c (.i .u32 (.ofNat 65536))), none⟩])
 (.cond (.t 4) (.seq (.reg [⟨some 5, .mv (.t 0), none⟩,
  ⟨some 6, .bin .shr (.t 5) (.c (.i .u64 (.ofNat 16))), none⟩,
  ⟨some 0, .mv (.t 6), none⟩])
 (.reg [⟨some 2, .mv (.c (.i .i64 (.ofNat 16))), none⟩]))
 (.skip)))
 (.seq (.seq (.reg [⟨some 7, .mv (.t 0), none⟩,
  ⟨some 8, .bin .geq (.t 7) (.c (.i .u32 (.ofNat 256))), none⟩])
 (.cond (.t 8) (.seq (.reg [⟨some 9, .mv (.t 0), none⟩,
  ⟨some 10, .bin .shr (.t 9) (.c (.i .u64 (.ofNat 8))), none⟩,
  ⟨some 0, .mv (.t 10), none⟩])
 (.reg [⟨some 11, .mv (.t 2), none⟩,
  ⟨some 12, .bin .add (.t 11) (.c (.i .i64 (.ofNat 8))), none⟩,
  ⟨some 2, .mv (.t 12), none⟩]))
 (.skip)))
 (.seq (.reg [⟨some 13, .mv (.t 2), none⟩,
  ⟨some 14, .mv (.t 0), none⟩,
  ⟨some 15, .conv .u8 (.t 14), none⟩,
  ⟨some 16, .idxT (.c (.s [0, 1, 2, 2, 3, 3, 3, 3, 4, 4, 4, 4, 4, 4, 4, 4, 5, 5, 5, 5, 5, 5, 5, 5, 5, 5, 5, 5, 5, 5, 5, 5, 6, 6, 6, 6, 6, 6, 6, 6, 6, 6, 6, 6, 6, 6, 6, 6, 6, 6, 6, 6, 6, 6, 6, 6, 6, 6, 6, 6, 6, 6, 6, 6, 7, 7, 7, 7, 7, 7, 7, 7, 7, 7, 7, 7, 7, 7, 7, 7, 7, 7, 7, 7, 7, 7, 7, 7, 7, 7, 7, 7, 7, 7, 7, 7, 7, 7, 7, 7, 7, 7, 7, 7, 7, 7, 7, 7, 7, 7, 7, 7, 7, 7, 7, 7, 7, 7, 7, 7, 7, 7, 7, 7, 7, 7, 7, 7, 8, 8, 8, 8, 8, 8, 8, 8, 8, 8, 8, 8, 8, 8, 8, 8, 8, 8, 8, 8, 8, 8, 8, 8, 8, 8, 8, 8, 8, 8, 8, 8, 8, 8, 8, 8, 8, 8, 8, 8, 8, 8, 8, 8, 8, 8, 8, 8, 8, 8, 8, 8, 8, 8, 8, 8, 8, 8, 8, 8, 8, 8, 8, 8, 8, 8, 8, 8, 8, 8, 8, 8, 8, 8, 8, 8, 8, 8, 8, 8, 8, 8, 8, 8, 8, 8, 8, 8, 8, 8, 8, 8, 8, 8, 8, 8, 8, 8, 8, 8, 8, 8, 8, 8, 8, 8, 8, 8, 8, 8, 8, 8, 8, 8, 8, 8, 8, 8, 8, 8, 8, 8, 8, 8, 8, 8, 8, 8])) (.t 15), none⟩,
  ⟨some 17, .conv .i64 (.t 16), none⟩,
  ⟨some 18, .bin .add (.t 13) (.t 17), none⟩,
  ⟨some 2, .mv (.t 18), none⟩])
 (.ret)))), [.t 2]⟩
def d217 : FDef := ⟨17, .seq (.reg [⟨some 4, .mv (.c (.s [])), none⟩])
 (.seq (.block 0 (.loop (.seq (.seq (.reg [⟨some 5, .mv (.t 0), none⟩,
  ⟨some 6, .lenT (.t 5), none⟩,
  ⟨some 7, .bin .gtr (.t 6) (.c (.i .i64 (.ofNat 0))), none⟩,
  ⟨some 8, .mv (.t 7), none⟩,
  ⟨some 9, .mv (.t 0), (some (8, true))⟩,
  ⟨some 10, .idxT (.t 9) (.c (.i .i64 (.ofNat 0))), (some (8, true))⟩,
  ⟨some 11, .mv (.t 1), (some (8, true))⟩,
  ⟨some 12, .bin .eql (.t 10) (.t 11), (some (8, true))⟩,
  ⟨some 13, .pick (.t 8) (.t 12) (.c (.b false)), none⟩])
 (.cond (.t 13) (.skip)
 (.exit 0)))
 (.block 1 (.reg [⟨some 14, .mv (.t 0), none⟩,
  ⟨some 15, .slcT (.t 14) (some (.c (.i .i64 (.ofNat 1)))) none, none⟩,
  ⟨some 0, .mv (.t 15), none⟩])))))
 (.seq (.reg [⟨some 16, .mv (.t 0), none⟩,
  ⟨some 4, .mv (.t 16), none⟩])
 (.ret))), [.t 4]⟩
def d218 : FDef := ⟨21, .seq (.reg [⟨some 2, .new 309 1 [.b false, .b false, .b false, .b false, .b false, .b false, .b false, .b false, .b false, .b false, .b false, .b false, .b false, .b false, .b false, .b false, .b false, .b false, .b false, .b false, .b false, .b false, .b false, .b false, .b false, .b false, .b false, .b false, .b false, .b false, .b false, .b false, .b false, .b false, .b false, .b false, .b false, .b false, .b false, .b false, .b false, .b false, .b false, .b false, .b false, .b false, .b false, .b false, .b false, .b false, .b false, .b false, .b false, .b false, .b false, .b false, .b false, .b false, .b false, .b false, .b false, .b false, .b false, .b false, .b false, .b false, .b false, .b false, .b false, .b false, .b false, .b false, .b false, .b false, .b false, .b false, .b false, .b false, .b false, .b false, .b false, .b false, .b false, .b false, .b false, .b false, .b false, .b false, .b false, .b false, .b false, .b false, .b false, .b false, .b false, .b false, .b false, .b false, .b false, .b false, .b false, .b false, .b false, .b false, .b false, .b false, .b false, .b false, .b false, .b false, .b false, .b false, .b false, .b false, .b false, .b false, .b false, .b false, .b false, .b false, .b false, .b false, .b false, .b false, .b false, .b false, .b false, .b false, .b false, .b false, .b false, .b false, .b false, .b false, .b false, .b false, .b false, .b false, .b false, .b false, .b false, .b false, .b false, .b false, .b false, .b false, .b false, .b false, .b false, .b false, .b false, .b false, .b false, .b false, .b false, .b false, .b false, .b false, .b false, .b false, .b false, .b false, .b false, .b false, .b false, .b false, .b false, .b false, .b false, .b false, .b false, .b false, .b false, .b false, .b false, .b false, .b false, .b false, .b false, .b false, .b false, .b false, .b false, .b false, .b false, .b false, .b false, .b false, .b false, .b false, .b false, .b false, .b false, .b false, .b false, .b false, .b false, .b false, .b false, .b false, .b false, .b false, .b false, .b false, .b false, .b false, .b false, .b false, .b false, .b false, .b false, .b false, .b false, .b false, .b false, .b false, .b false, .b false, .b false, .b false, .b false, .b false, .b false, .b false, .b false, .b false, .b false, .b false, .b false, .b false, .b false, .b false, .b false, .b false, .b false, .b false, .b false, .b false, .b false, .b false, .b false, .b false, .b false, .b false, .b false, .b false, .b false, .b false, .b false, .b false, .b false, .b false, .b false, .b false, .b false, .b false], none⟩,
  ⟨some 3, .mv (.c (.b false)), none⟩])
 (.seq (.seq (.reg [⟨some 4, .mv (.c (.i .i64 (.ofNat 0))), none⟩])
 (.block 0 (.loop (.seq (.seq (.reg [⟨some 6, .mv (.t 4), none⟩,
  ⟨some 7, .mv (.t 0), none⟩,
  ⟨some 8, .lenT (.t 7), none⟩,
  ⟨some 9, .bin .lss (.t 6) (.t 8), none⟩])
 (.cond (.t 9) (.skip)
 (.exit 0)))
 (.seq (.block 1 (.seq (.reg [⟨some 12, .mv (.t 0), none⟩,
  ⟨some 13, .mv (.t 4), none⟩,
  ⟨some 14, .idxT (.t 12) (.t 13), none⟩,
  ⟨some 5, .mv (.t 14), none⟩])
 (.seq (.seq (.reg [⟨some 15, .mv (.t 5), none⟩,
  ⟨some 16, .bin .geq (.t 15) (.c (.i .u8 (.ofNat 128))), none⟩])
 (.cond (.t 16) (.seq (.reg [⟨some 17, .ld true 256 (.t 2), none⟩,
  ⟨none, .st 256 (.t 2) (.t 17), none⟩,
  ⟨some 3, .mv (.c (.b false)), none⟩])
 (.ret))
 (.skip)))
 (.reg [⟨some 18, .mv (.t 5), none⟩,
  ⟨some 19, .iadA 256 1 (.t 2) (.t 18), none⟩,
  ⟨none, .st 1 (.t 19) (.c (.b true)), none⟩]))))
 (.reg [⟨some 10, .mv (.t 4), none⟩,
  ⟨some 11, .bin .add (.t 10) (.c (.i .i64 (.ofNat 1))), none⟩,
  ⟨some 4, .mv (.t 11), none⟩]))))))
 (.seq (.reg [⟨some 20, .ld true 256 (.t 2), none⟩,
  ⟨none, .st 256 (.t 2) (.t 20), none⟩,
  ⟨some 3, .mv (.c (.b true)), none⟩])
 (.ret))), [.cell true 256 2, .t 3]⟩
def d219 : FDef := ⟨16, .seq (.reg [⟨some 4, .mv (.c (.s [])), none⟩])
 (.seq (.block 0 (.loop (.seq (.seq (.reg [⟨some 5, .mv (.t 0), none⟩,
  ⟨some 6, .lenT (.t 5), none⟩,
  ⟨some 7, .bin .gtr (.t 6) (.c (.i .i64 (.ofNat 0))), none⟩])
 (.cond (.t 7) (.skip)
 (.exit 0)))
 (.block 1 (.seq (.seq (.reg [⟨some 8, .mv (.t 1), none⟩,
  ⟨some 9, .mv (.t 0), none⟩,
  ⟨some 10, .idxT (.t 9) (.c (.i .i64 (.ofNat 0))), none⟩,
  ⟨some 11, .call 230 [(.t 8), (.t 10)], none⟩,
  ⟨some 12, .un .not (.t 11), none⟩])
 (.cond (.t 12) (.exit 0)
 (.skip)))
 (.reg [⟨some 13, .mv (.t 0), none⟩,
  ⟨some 14, .slcT (.t 13) (some (.c (.i .i64 (.ofNat 1)))) none, none⟩,
  ⟨some 0, .mv (.t 14), none⟩]))))))
 (.seq (.reg [⟨some 15, .mv (.t 0), none⟩,
  ⟨some 4, .mv (.t 15), none⟩])
 (.ret))), [.t 4]⟩
def d220 : FDef := ⟨23, .seq (.reg [⟨some 4, .mv (.c (.s [])), none⟩])
 (.seq (.block 0 (.loop (.seq (.seq (.reg [⟨some 7, .mv (.t 0), none⟩,
  ⟨some 8, .lenT (.t 7), none⟩,
  ⟨some 9, .bin .gtr (.t 8) (.c (.i .i64 (.ofNat 0))), none⟩])
 (.cond (.t 9) (.skip)
 (.exit 0)))
 (.block 1 (.seq (.reg [⟨some 11, .mv (.t 0), none⟩,
  ⟨some 12, .call 231 [(.t 11)], none⟩,
  ⟨some 10, .mv (.t 12), none⟩,
  ⟨some 13, .ext 0 (.t 10), none⟩,
  ⟨some 14, .ext 1 (.t 10), none⟩,
  ⟨some 5, .mv (.t 13), none⟩,
  ⟨some 6, .mv (.t 14), none⟩])
 (.seq (.seq (.reg [⟨some 15, .mv (.t 1), none⟩,
  ⟨some 16, .mv (.t 5), none⟩,
  ⟨some 17, .call 232 [(.t 15), (.t 16)], none⟩,
  ⟨some 18, .un .not (.t 17), none⟩])
 (.cond (.t 18) (.exit 0)
 (.skip)))
 (.reg [⟨some 19, .mv (.t 0), none⟩,
  ⟨some 20, .mv (.t 6), none⟩,
  ⟨some 21, .slcT (.t 19) (some (.t 20)) none, none⟩,
  ⟨some 0, .mv (.t 21), none⟩])))))))
 (.seq (.reg [⟨some 22, .mv (.t 0), none⟩,
  ⟨some 4, .mv (.t 22), none⟩])
 (.ret))), [.t 4]⟩
def d222 : FDef := ⟨13, .seq (.reg [⟨some 2, .box 74 2 (.t 0), none⟩,
  ⟨some 3, .box 74 2 (.t 1), none⟩,
  ⟨some 4, .new 76 4 [.b false, .s [], .b false, .s []], none⟩,
  ⟨some 5, .mv (.c (.i .i64 (.ofNat 0))), none⟩])
 (.seq (.seq (.reg [⟨some 6, .ld true 2 (.t 3), none⟩,
  ⟨some 7, .call 110 [(.t 6)], none⟩,
  ⟨some 8, .bin .eql (.t 7) (.c (.i .i64 (.ofNat 0))), none⟩])
 (.cond (.t 8) (.seq (.reg [⟨some 9, .build [.b false, .s [], .b false, .s []] [], none⟩,
  ⟨none, .st 4 (.t 4) (.t 9), none⟩,
  ⟨some 5, .mv (.c (.i .i64 (.ofNat 6))), none⟩])
 (.ret))
 (.skip)))
 (.seq (.reg [⟨some 10, .ld true 2 (.t 2), none⟩,
  ⟨some 11, .ld true 2 (.t 3), none⟩,
  ⟨some 12, .call 83 [(.t 10), (.t 11)], none⟩,
  ⟨none, .st 4 (.t 4) (.t 12), none⟩,
  ⟨some 5, .mv (.c (.i .i64 (.ofNat 0))), none⟩])
 (.ret))), [.cell true 4 4, .t 5]⟩
def d223 : FDef := ⟨26, .seq (.reg [⟨some 3, .box 74 2 (.t 1), none⟩])
 (.seq (.reg [⟨some 5, .fad 1 (.t 3), none⟩,
  ⟨some 6, .ld false 1 (.t 5), none⟩,
  ⟨some 7, .lenT (.t 6), none⟩,
  ⟨some 8, .bin .mul (.c (.i .i64 (.ofNat 2))) (.t 7), none⟩,
  ⟨some 4, .mv (.t 8), none⟩])
 (.seq (.seq (.reg [⟨some 9, .fad 0 (.t 3), none⟩,
  ⟨some 10, .ld false 1 (.t 9), none⟩])
 (.cond (.t 10) (.reg [⟨some 11, .mv (.t 4), none⟩,
  ⟨some 12, .bin .add (.t 11) (.c (.i .i64 (.ofNat 1))), none⟩,
  ⟨some 4, .mv (.t 12), none⟩])
 (.skip)))
 (.seq (.reg [⟨some 13, .mv (.t 0), none⟩,
  ⟨some 14, .mv (.t 4), none⟩,
  ⟨some 15, .call 90 [(.t 13), (.t 14)], none⟩])
 (.dreg 0 [⟨⟨some 16, .mv (.t 0), none⟩, 0, [], [], 0⟩,
  ⟨⟨some 17, .mv (.t 0), none⟩, 0, [], [], 0⟩,
  ⟨⟨some 18, .nilChk (.t 17), none⟩, 0, [1], [], 0⟩,
  ⟨⟨some 19, .fad 0 (.t 18), none⟩, 0, [1, 2], [], 0⟩,
  ⟨⟨some 20, .ld false 1 (.t 19), none⟩, 1, [1, 2, 3], [], 0⟩,
  ⟨⟨some 21, .fad 1 (.t 3), none⟩, 0, [], [], 0⟩,
  ⟨⟨some 22, .ld false 1 (.t 21), none⟩, 1, [5], [], 0⟩,
  ⟨⟨some 23, .app 5 1 1 (.t 20) (.t 22), none⟩, 2, [1, 2, 3, 4, 5, 6], [], 0⟩,
  ⟨⟨some 24, .nilChk (.t 16), none⟩, 0, [0, 1, 2, 3, 4, 5, 6, 7], [], 0⟩,
  ⟨⟨some 25, .fad 0 (.t 24), none⟩, 0, [0, 1, 2, 3, 4, 5, 6, 7, 8], [], 0⟩,
  ⟨⟨none, .st 1 (.t 25) (.t 23), none⟩, 2, [0, 1, 2, 3, 4, 5, 6, 7, 8, 9], [], 0⟩])))), []⟩
def d224 : FDef := ⟨21, .seq (.reg [⟨some 1, .box 74 2 (.t 0), none⟩,
  ⟨some 2, .mv (.c (.i .i64 (.ofNat 0))), none⟩])
 (.seq (.seq (.reg [⟨some 3, .fad 1 (.t 1), none⟩,
  ⟨some 4, .ld false 1 (.t 3), none⟩,
  ⟨some 5, .bin .eql (.t 4) (.c (.s [])), none⟩,
  ⟨some 6, .mv (.t 5), none⟩,
  ⟨some 7, .fad 0 (.t 1), (some (6, true))⟩,
  ⟨some 8, .ld false 1 (.t 7), (some (6, true))⟩,
  ⟨some 9, .pick (.t 6) (.t 8) (.c (.b false)), none⟩,
  ⟨some 10, .mv (.t 9), none⟩,
  ⟨some 11, .fad 1 (.t 1), (some (10, false))⟩,
  ⟨some 12, .ld false 1 (.t 11), (some (10, false))⟩,
  ⟨some 13, .bin .neq (.t 12) (.c (.s [])), (some (10, false))⟩,
  ⟨some 14, .mv (.t 13), (some (10, false))⟩,
  ⟨some 15, .fad 1 (.t 1), (some (14, true))⟩,
  ⟨some 16, .ld false 1 (.t 15), (some (14, true))⟩,
  ⟨some 17, .idxT (.t 16) (.c (.i .i64 (.ofNat 0))), (some (14, true))⟩,
  ⟨some 18, .bin .eql (.t 17) (.c (.i .u8 (.ofNat 0))), (some (14, true))⟩,
  ⟨some 19, .pick (.t 14) (.t 18) (.c (.b false)), (some (10, false))⟩,
  ⟨some 20, .pick (.t 10) (.c (.b true)) (.t 19), none⟩])
 (.cond (.t 20) (.seq (.reg [⟨some 2, .mv (.c (.i .i64 (.ofNat 5))), none⟩])
 (.ret))
 (.skip)))
 (.seq (.reg [⟨some 2, .mv (.c (.i .i64 (.ofNat 0))), none⟩])
 (.ret))), [.t 2]⟩
def d225 : FDef := ⟨20, .seq (.reg [⟨some 1, .box 74 2 (.t 0), none⟩,
  ⟨some 2, .new 74 2 [.b false, .s []], none⟩,
  ⟨some 3, .mv (.c (.b false)), none⟩])
 (.seq (.seq (.reg [⟨some 5, .fad 0 (.t 1), none⟩,
  ⟨some 6, .ld false 1 (.t 5), none⟩])
 (.cond (.t 6) (.seq (.reg [⟨some 7, .build [.b false, .s []] [], none⟩,
  ⟨none, .st 2 (.t 2) (.t 7), none⟩,
  ⟨some 3, .mv (.c (.b false)), none⟩])
 (.ret))
 (.skip)))
 (.seq (.reg [⟨some 8, .fad 1 (.t 1), none⟩,
  ⟨some 9, .ld false 1 (.t 8), none⟩,
  ⟨some 10, .call 185 [(.t 9)], none⟩,
  ⟨some 4, .mv (.t 10), none⟩])
 (.seq (.seq (.dreg 0 [⟨⟨some 11, .mv (.t 4), none⟩, 0, [], [], 0⟩,
  ⟨⟨some 12, .mv (.t 4), none⟩, 0, [], [], 0⟩,
  ⟨⟨some 13, .call 120 [(.t 11), (.t 12)], none⟩, 2, [0, 1], [], 0⟩,
  ⟨⟨some 14, .fad 1 (.t 1), none⟩, 0, [], [], 0⟩,
  ⟨⟨some 15, .ld false 1 (.t 14), none⟩, 1, [3], [], 0⟩,
  ⟨⟨some 16, .bin .neq (.t 13) (.t 15), none⟩, 0, [0, 1, 2, 3, 4], [], 0⟩])
 (.cond (.t 16) (.seq (.reg [⟨some 17, .build [.b false, .s []] [], none⟩,
  ⟨none, .st 2 (.t 2) (.t 17), none⟩,
  ⟨some 3, .mv (.c (.b false)), none⟩])
 (.ret))
 (.skip)))
 (.seq (.reg [⟨some 18, .mv (.t 4), none⟩,
  ⟨some 19, .call 115 [(.c (.b false)), (.t 18)], none⟩,
  ⟨none, .st 2 (.t 2) (.t 19), none⟩,
  ⟨some 3, .mv (.c (.b true)), none⟩])
 (.ret))))), [.cell true 2 2, .t 3]⟩
def d226 : FDef := ⟨63, .seq (.reg [⟨some 6, .mv (.c (.i .i64 (.ofNat 20))), none⟩])
 (.seq (.reg [⟨some 10, .mv (.t 6), none⟩,
  ⟨some 7, .mv (.c (.i .i64 (.ofNat 0))), none⟩,
  ⟨some 8, .mv (.t 10), none⟩])
 (.seq (.block 0 (.loop (.seq (.seq (.reg [⟨some 11, .mv (.t 8), none⟩,
  ⟨some 12, .mv (.t 1), none⟩,
  ⟨some 13, .bin .leq (.t 11) (.t 12), none⟩])
 (.cond (.t 13) (.skip)
 (.exit 0)))
 (.block 1 (.seq (.reg [⟨some 14, .mv (.t 0), none⟩,
  ⟨some 15, .mv (.t 7), none⟩,
  ⟨some 16, .mv (.t 8), none⟩,
  ⟨some 17, .mv (.t 2), none⟩,
  ⟨some 18, .call 233 [(.t 14), (.t 15), (.t 16), (.t 17)], none⟩])
 (.seq (.reg [⟨some 19, .mv (.t 8), none⟩,
  ⟨some 7, .mv (.t 19), none⟩])
 (.reg [⟨some 20, .mv (.t 8), none⟩,
  ⟨some 21, .mv (.t 6), none⟩,
  ⟨some 22, .bin .add (.t 20) (.t 21), none⟩,
  ⟨some 8, .mv (.t 22), none⟩])))))))
 (.seq (.reg [⟨some 23, .mv (.t 0), none⟩,
  ⟨some 24, .mv (.t 7), none⟩,
  ⟨some 25, .mv (.t 1), none⟩,
  ⟨some 26, .mv (.t 2), none⟩,
  ⟨some 27, .call 233 [(.t 23), (.t 24), (.t 25), (.t 26)], none⟩])
 (.block 2 (.loop (.seq (.seq (.reg [⟨some 28, .mv (.t 6), none⟩,
  ⟨some 29, .mv (.t 1), none⟩,
  ⟨some 30, .bin .lss (.t 28) (.t 29), none⟩])
 (.cond (.t 30) (.skip)
 (.exit 2)))
 (.block 3 (.seq (.reg [⟨some 31, .mv (.t 6), none⟩,
  ⟨some 32, .bin .mul (.c (.i .i64 (.ofNat 2))) (.t 31), none⟩,
  ⟨some 7, .mv (.c (.i .i64 (.ofNat 0))), none⟩,
  ⟨some 8, .mv (.t 32), none⟩])
 (.seq (.block 4 (.loop (.seq (.seq (.reg [⟨some 33, .mv (.t 8), none⟩,
  ⟨some 34, .mv (.t 1), none⟩,
  ⟨some 35, .bin .leq (.t 33) (.t 34), none⟩])
 (.cond (.t 35) (.skip)
 (.exit 4)))
 (.block 5 (.seq (.reg [⟨some 36, .mv (.t 0), none⟩,
  ⟨some 37, .mv (.t 7), none⟩,
  ⟨some 38, .mv (.t 7), none⟩,
  ⟨some 39, .mv (.t 6), none⟩,
  ⟨some 40, .bin .add (.t 38) (.t 39), none⟩,
  ⟨some 41, .mv (.t 8), none⟩,
  ⟨some 42, .mv (.t 2), none⟩,
  ⟨some 43, .call 234 [(.t 36), (.t 37), (.t 40), (.t 41), (.t 42)], none⟩])
 (.seq (.reg [⟨some 44, .mv (.t 8), none⟩,
  ⟨some 7, .mv (.t 44), none⟩])
 (.reg [⟨some 45, .mv (.t 8), none⟩,
  ⟨some 46, .mv (.t 6), none⟩,
  ⟨some 47, .bin .mul (.c (.i .i64 (.ofNat 2))) (.t 46), none⟩,
  ⟨some 48, .bin .add (.t 45) (.t 47), none⟩,
  ⟨some 8, .mv (.t 48), none⟩])))))))
 (.seq (.seq (.reg [⟨some 49, .mv (.t 7), none⟩,
  ⟨some 50, .mv (.t 6), none⟩,
  ⟨some 51, .bin .add (.t 49) (.t 50), none⟩,
  ⟨some 9, .mv (.t 51), none⟩])
 (.seq (.reg [⟨some 52, .mv (.t 9), none⟩,
  ⟨some 53, .mv (.t 1), none⟩,
  ⟨some 54, .bin .lss (.t 52) (.t 53), none⟩])
 (.cond (.t 54) (.reg [⟨some 55, .mv (.t 0), none⟩,
  ⟨some 56, .mv (.t 7), none⟩,
  ⟨some 57, .mv (.t 9), none⟩,
  ⟨some 58, .mv (.t 1), none⟩,
  ⟨some 59, .mv (.t 2), none⟩,
  ⟨some 60, .call 234 [(.t 55), (.t 56), (.t 57), (.t 58), (.t 59)], none⟩])
 (.skip))))
 (.reg [⟨some 61, .mv (.t 6), none⟩,
  ⟨some 62, .bin .mul (.t 61) (.c (.i .i64 (.ofNat 2))), none⟩,
  ⟨some 6, .mv (.t 62), none⟩]))))))))))), []⟩
def d227 : FDef := ⟨30, .seq (.reg [⟨some 4, .mv (.c (.i .u64 (.ofNat 0))), none⟩,
  ⟨some 5, .mv (.c (.i .u64 (.ofNat 0))), none⟩])
 (.seq (.cond (.c (.b false)) (.seq (.reg [⟨some 11, .mv (.t 0), none⟩,
  ⟨some 12, .conv .u32 (.t 11), none⟩,
  ⟨some 13, .mv (.t 1), none⟩,
  ⟨some 14, .conv .u32 (.t 13), none⟩,
  ⟨some 15, .call 235 [(.t 12), (.t 14)], none⟩,
  ⟨some 10, .mv (.t 15), none⟩,
  ⟨some 16, .ext 0 (.t 10), none⟩,
  ⟨some 17, .ext 1 (.t 10), none⟩,
  ⟨some 6, .mv (.t 16), none⟩,
  ⟨some 7, .mv (.t 17), none⟩])
 (.seq (.reg [⟨some 18, .mv (.t 6), none⟩,
  ⟨some 19, .conv .u64 (.t 18), none⟩,
  ⟨some 20, .mv (.t 7), none⟩,
  ⟨some 21, .conv .u64 (.t 20), none⟩,
  ⟨some 4, .mv (.t 19), none⟩,
  ⟨some 5, .mv (.t 21), none⟩])
 (.ret)))
 (.skip))
 (.seq (.reg [⟨some 23, .mv (.t 0), none⟩,
  ⟨some 24, .mv (.t 1), none⟩,
  ⟨some 25, .call 162 [(.t 23), (.t 24)], none⟩,
  ⟨some 22, .mv (.t 25), none⟩,
  ⟨some 26, .ext 0 (.t 22), none⟩,
  ⟨some 27, .ext 1 (.t 22), none⟩,
  ⟨some 8, .mv (.t 26), none⟩,
  ⟨some 9, .mv (.t 27), none⟩])
 (.seq (.reg [⟨some 28, .mv (.t 8), none⟩,
  ⟨some 29, .mv (.t 9), none⟩,
  ⟨some 4, .mv (.t 28), none⟩,
  ⟨some 5, .mv (.t 29), none⟩])
 (.ret)))), [.t 4, .t 5]⟩
def d228 : FDef := ⟨25, .seq (.reg [⟨some 4, .mv (.t 0), none⟩,
  ⟨some 5, .call 89 [(.t 4)], none⟩])
 (.seq (.seq (.reg [⟨some 6, .mv (.t 1), none⟩,
  ⟨some 7, .bin .lss (.t 6) (.c (.i .i64 (.ofNat 0))), none⟩])
 (.cond (.t 7) (.bad)
 (.skip)))
 (.seq (.dreg 0 [⟨⟨some 9, .mv (.t 0), none⟩, 0, [], [], 0⟩,
  ⟨⟨some 10, .nilChk (.t 9), none⟩, 0, [0], [], 0⟩,
  ⟨⟨some 11, .fad 1 (.t 10), none⟩, 0, [0, 1], [], 0⟩,
  ⟨⟨some 12, .ld false 1 (.t 11), none⟩, 1, [0, 1, 2], [], 0⟩,
  ⟨⟨some 13, .capS (.t 12), none⟩, 0, [0, 1, 2, 3], [], 0⟩,
  ⟨⟨some 14, .mv (.t 0), none⟩, 0, [], [], 0⟩,
  ⟨⟨some 15, .nilChk (.t 14), none⟩, 0, [5], [], 0⟩,
  ⟨⟨some 16, .fad 1 (.t 15), none⟩, 0, [5, 6], [], 0⟩,
  ⟨⟨some 17, .ld false 1 (.t 16), none⟩, 1, [5, 6, 7], [], 0⟩,
  ⟨⟨some 18, .lenS (.t 17), none⟩, 0, [5, 6, 7, 8], [], 0⟩,
  ⟨⟨some 19, .bin .sub (.t 13) (.t 18), none⟩, 0, [0, 1, 2, 3, 4, 5, 6, 7, 8, 9], [], 0⟩,
  ⟨⟨some 20, .mv (.t 1), none⟩, 0, [], [], 0⟩,
  ⟨⟨some 21, .bin .lss (.t 19) (.t 20), none⟩, 0, [0, 1, 2, 3, 4, 5, 6, 7, 8, 9, 10, 11], [], 0⟩])
 (.cond (.t 21) (.reg [⟨some 22, .mv (.t 0), none⟩,
  ⟨some 23, .mv (.t 1), none⟩,
  ⟨some 24, .call 236 [(.t 22), (.t 23)], none⟩])
 (.skip)))), []⟩
def d229 : FDef := ⟨62, .seq (.reg [⟨some 2, .new 74 2 [.b false, .s []], none⟩])
 (.seq (.reg [⟨some 4, .mv (.t 0), none⟩,
  ⟨some 5, .call 186 [(.t 4)], none⟩,
  ⟨some 3, .mv (.t 5), none⟩])
 (.seq (.block 0 (.seq (.reg [⟨some 7, .mv (.t 3), none⟩,
  ⟨some 8, .bin .lss (.t 7) (.c (.i .i64 (.ofNat 0))), none⟩,
  ⟨some 6, .mv (.t 8), none⟩])
 (.cond (.t 6) (.reg [⟨some 9, .mv (.t 0), none⟩,
  ⟨some 10, .call 211 [(.t 9), (.c (.i .i64 (.ofNat 5)))], none⟩])
 (.seq (.dreg 0 [⟨⟨some 12, .mv (.t 3), none⟩, 0, [], [], 0⟩,
  ⟨⟨some 13, .bin .quo (.t 12) (.c (.i .i64 (.ofNat 2))), none⟩, 0, [0], [], 0⟩,
  ⟨⟨some 14, .mv (.t 0), none⟩, 0, [], [], 0⟩,
  ⟨⟨some 15, .nilChk (.t 14), none⟩, 0, [2], [], 0⟩,
  ⟨⟨some 16, .fad 0 (.t 15), none⟩, 0, [2, 3], [], 0⟩,
  ⟨⟨some 17, .ld false 1 (.t 16), none⟩, 1, [2, 3, 4], [], 0⟩,
  ⟨⟨some 18, .lenT (.t 17), none⟩, 0, [2, 3, 4, 5], [], 0⟩,
  ⟨⟨some 19, .mv (.t 0), none⟩, 0, [], [], 0⟩,
  ⟨⟨some 20, .nilChk (.t 19), none⟩, 0, [7], [], 0⟩,
  ⟨⟨some 21, .fad 1 (.t 20), none⟩, 0, [7, 8], [], 0⟩,
  ⟨⟨some 22, .ld false 1 (.t 21), none⟩, 1, [7, 8, 9], [], 0⟩,
  ⟨⟨some 23, .bin .sub (.t 18) (.t 22), none⟩, 0, [2, 3, 4, 5, 6, 7, 8, 9, 10], [], 0⟩,
  ⟨⟨some 24, .bin .gtr (.t 13) (.t 23), none⟩, 0, [0, 1, 2, 3, 4, 5, 6, 7, 8, 9, 10, 11], [], 0⟩,
  ⟨⟨some 11, .mv (.t 24), none⟩, 0, [0, 1, 2, 3, 4, 5, 6, 7, 8, 9, 10, 11, 12], [], 0⟩])
 (.cond (.t 11) (.reg [⟨some 25, .mv (.t 0), none⟩,
  ⟨some 26, .call 211 [(.t 25), (.c (.i .i64 (.ofNat 22)))], none⟩])
 (.skip))))))
 (.seq (.seq (.reg [⟨some 27, .mv (.t 0), none⟩,
  ⟨some 28, .nilChk (.t 27), none⟩,
  ⟨some 29, .fad 2 (.t 28), none⟩,
  ⟨some 30, .ld false 1 (.t 29), none⟩,
  ⟨some 31, .bin .neq (.t 30) (.c (.i .i64 (.ofNat 0))), none⟩])
 (.cond (.t 31) (.seq (.reg [⟨some 32, .build [.b false, .s []] [], none⟩,
  ⟨none, .st 2 (.t 2) (.t 32), none⟩])
 (.ret))
 (.skip)))
 (.seq (.reg [⟨some 33, .mv (.t 0), none⟩,
  ⟨some 34, .nilChk (.t 33), none⟩,
  ⟨some 35, .fad 1 (.t 34), none⟩,
  ⟨some 36, .ld false 1 (.t 35), none⟩,
  ⟨some 37, .mv (.t 3), none⟩,
  ⟨some 38, .bin .quo (.t 37) (.c (.i .i64 (.ofNat 2))), none⟩,
  ⟨some 39, .bin .add (.t 36) (.t 38), none⟩,
  ⟨some 40, .nilChk (.t 33), none⟩,
  ⟨some 41, .fad 1 (.t 40), none⟩,
  ⟨none, .st 1 (.t 41) (.t 39), none⟩])
 (.seq (.dreg 0 [⟨⟨some 42, .mv (.t 3), none⟩, 0, [], [], 0⟩,
  ⟨⟨some 43, .bin .rem (.t 42) (.c (.i .i64 (.ofNat 2))), none⟩, 0, [0], [], 0⟩,
  ⟨⟨some 44, .bin .eql (.t 43) (.c (.i .i64 (.ofNat 1))), none⟩, 0, [0, 1], [], 0⟩,
  ⟨⟨some 45, .mv (.t 0), none⟩, 0, [], [], 0⟩,
  ⟨⟨some 46, .nilChk (.t 45), none⟩, 0, [3], [], 0⟩,
  ⟨⟨some 47, .fad 0 (.t 46), none⟩, 0, [3, 4], [], 0⟩,
  ⟨⟨some 48, .ld false 1 (.t 47), none⟩, 1, [3, 4, 5], [], 0⟩,
  ⟨⟨some 49, .mv (.t 0), none⟩, 0, [], [], 0⟩,
  ⟨⟨some 50, .nilChk (.t 49), none⟩, 0, [7], [], 0⟩,
  ⟨⟨some 51, .fad 1 (.t 50), none⟩, 0, [7, 8], [], 0⟩,
  ⟨⟨some 52, .ld false 1 (.t 51), none⟩, 1, [7, 8, 9], [], 0⟩,
  ⟨⟨some 53, .mv (.t 3), none⟩, 0, [], [], 0⟩,
  ⟨⟨some 54, .bin .quo (.t 53) (.c (.i .i64 (.ofNat 2))), none⟩, 0, [11], [], 0⟩,
  ⟨⟨some 55, .bin .sub (.t 52) (.t 54), none⟩, 0, [7, 8, 9, 10, 11, 12], [], 0⟩,
  ⟨⟨some 56, .mv (.t 0), none⟩, 0, [], [], 0⟩,
  ⟨⟨some 57, .nilChk (.t 56), none⟩, 0, [14], [], 0⟩,
  ⟨⟨some 58, .fad 1 (.t 57), none⟩, 0, [14, 15], [], 0⟩,
  ⟨⟨some 59, .ld false 1 (.t 58), none⟩, 1, [14, 15, 16], [], 0⟩,
  ⟨⟨some 60, .slcT (.t 48) (some (.t 55)) (some (.t 59)), none⟩, 0, [3, 4, 5, 6, 7, 8, 9, 10, 11, 12, 13, 14, 15, 16, 17], [], 0⟩,
  ⟨⟨some 61, .build [.b false, .s []] [(0, 1, (.t 44)), (1, 1, (.t 60))], none⟩, 0, [0, 1, 2, 3, 4, 5, 6, 7, 8, 9, 10, 11, 12, 13, 14, 15, 16, 17, 18], [], 0⟩,
  ⟨⟨none, .st 2 (.t 2) (.t 61), none⟩, 2, [0, 1, 2, 3, 4, 5, 6, 7, 8, 9, 10, 11, 12, 13, 14, 15, 16, 17, 18, 19], [], 0⟩])
 (.ret)))))), [.cell true 2 2]⟩
def d230 : FDef := ⟨10, .seq (.reg [⟨some 4, .mv (.c (.b false)), none⟩])
 (.seq (.reg [⟨some 5, .mv (.t 0), none⟩,
  ⟨some 6, .mv (.t 1), none⟩,
  ⟨some 7, .nilChk (.t 5), none⟩,
  ⟨some 8, .iadA 256 1 (.t 7) (.t 6), none⟩,
  ⟨some 9, .ld false 1 (.t 8), none⟩,
  ⟨some 4, .mv (.t 9), none⟩])
 (.ret)), [.t 4]⟩
def d231 : FDef := ⟨19, .seq (.reg [⟨some 2, .mv (.c (.i .i32 (.ofNat 0))), none⟩,
  ⟨some 3, .mv (.c (.i .i64 (.ofNat 0))), none⟩])
 (.seq (.seq (.reg [⟨some 4, .mv (.t 0), none⟩,
  ⟨some 5, .bin .neq (.t 4) (.c (.s [])), none⟩,
  ⟨some 6, .mv (.t 5), none⟩,
  ⟨some 7, .mv (.t 0), (some (6, true))⟩,
  ⟨some 8, .idxT (.t 7) (.c (.i .i64 (.ofNat 0))), (some (6, true))⟩,
  ⟨some 9, .bin .lss (.t 8) (.c (.i .u8 (.ofNat 128))), (some (6, true))⟩,
  ⟨some 10, .pick (.t 6) (.t 9) (.c (.b false)), none⟩])
 (.cond (.t 10) (.seq (.reg [⟨some 11, .mv (.t 0), none⟩,
  ⟨some 12, .idxT (.t 11) (.c (.i .i64 (.ofNat 0))), none⟩,
  ⟨some 13, .conv .i32 (.t 12), none⟩,
  ⟨some 2, .mv (.t 13), none⟩,
  ⟨some 3, .mv (.c (.i .i64 (.ofNat 1))), none⟩])
 (.ret))
 (.reg [⟨some 15, .mv (.t 0), none⟩,
  ⟨some 16, .call 237 [(.t 15)], none⟩,
  ⟨some 14, .mv (.t 16), none⟩,
  ⟨some 17, .ext 0 (.t 14), none⟩,
  ⟨some 18, .ext 1 (.t 14), none⟩,
  ⟨some 2, .mv (.t 17), none⟩,
  ⟨some 3, .mv (.t 18), none⟩])))
 (.ret)), [.t 2, .t 3]⟩
def d232 : FDef := ⟨9, .seq (.reg [⟨some 4, .mv (.c (.b false)), none⟩])
 (.seq (.reg [⟨some 5, .mv (.t 0), none⟩,
  ⟨some 6, .mv (.t 1), none⟩,
  ⟨some 7, .call 238 [(.t 5), (.t 6)], none⟩,
  ⟨some 8, .bin .geq (.t 7) (.c (.i .i64 (.ofNat 0))), none⟩,
  ⟨some 4, .mv (.t 8), none⟩])
 (.ret)), [.t 4]⟩
def d233 : FDef := ⟨53, .seq (.reg [⟨some 10, .mv (.t 1), none⟩,
  ⟨some 11, .bin .add (.t 10) (.c (.i .i64 (.ofNat 1))), none⟩,
  ⟨some 8, .mv (.t 11), none⟩])
 (.block 0 (.loop (.seq (.seq (.reg [⟨some 12, .mv (.t 8), none⟩,
  ⟨some 13, .mv (.t 2), none⟩,
  ⟨some 14, .bin .lss (.t 12) (.t 13), none⟩])
 (.cond (.t 14) (.skip)
 (.exit 0)))
 (.seq (.block 1 (.seq (.reg [⟨some 17, .mv (.t 8), none⟩,
  ⟨some 9, .mv (.t 17), none⟩])
 (.block 2 (.loop (.seq (.seq (.dreg 0 [⟨⟨some 18, .mv (.t 9), none⟩, 0, [], [], 0⟩,
  ⟨⟨some 19, .mv (.t 1), none⟩, 0, [], [], 0⟩,
  ⟨⟨some 20, .bin .gtr (.t 18) (.t 19), none⟩, 0, [0, 1], [], 0⟩,
  ⟨⟨some 21, .mv (.t 20), none⟩, 0, [0, 1, 2], [], 0⟩,
  ⟨⟨some 22, .mv (.t 3), (some (21, true))⟩, 0, [0, 1, 2, 3], [], 0⟩,
  ⟨⟨some 23, .mv (.t 0), (some (21, true))⟩, 0, [0, 1, 2, 3], [], 0⟩,
  ⟨⟨some 24, .mv (.t 9), (some (21, true))⟩, 0, [0, 1, 2, 3], [], 0⟩,
  ⟨⟨some 25, .iadS 36 (.t 23) (.t 24), (some (21, true))⟩, 0, [0, 1, 2, 3, 5, 6], [], 0⟩,
  ⟨⟨some 26, .ld true 36 (.t 25), (some (21, true))⟩, 1, [0, 1, 2, 3, 5, 6, 7], [], 0⟩,
  ⟨⟨some 27, .mv (.t 0), (some (21, true))⟩, 0, [0, 1, 2, 3], [], 0⟩,
  ⟨⟨some 28, .mv (.t 9), (some (21, true))⟩, 0, [0, 1, 2, 3], [], 0⟩,
  ⟨⟨some 29, .bin .sub (.t 28) (.c (.i .i64 (.ofNat 1))), (some (21, true))⟩, 0, [0, 1, 2, 3, 10], [], 0⟩,
  ⟨⟨some 30, .iadS 36 (.t 27) (.t 29), (some (21, true))⟩, 0, [0, 1, 2, 3, 9, 10, 11], [], 0⟩,
  ⟨⟨some 31, .ld true 36 (.t 30), (some (21, true))⟩, 1, [0, 1, 2, 3, 9, 10, 11, 12], [], 0⟩,
  ⟨⟨some 32, .callV (.t 22) [(.t 26), (.t 31)], (some (21, true))⟩, 2, [0, 1, 2, 3, 4, 5, 6, 7, 8, 9, 10, 11, 12, 13], [], 0⟩,
  ⟨⟨some 33, .bin .lss (.t 32) (.c (.i .i64 (.ofNat 0))), (some (21, true))⟩, 0, [0, 1, 2, 3, 4, 5, 6, 7, 8, 9, 10, 11, 12, 13, 14], [], 0⟩,
  ⟨⟨some 34, .pick (.t 21) (.t 33) (.c (.b false)), none⟩, 0, [0, 1, 2, 3, 4, 5, 6, 7, 8, 9, 10, 11, 12, 13, 14, 15], [], 0⟩])
 (.cond (.t 34) (.skip)
 (.exit 2)))
 (.seq (.block 3 (.dreg 0 [⟨⟨some 37, .mv (.t 0), none⟩, 0, [], [], 0⟩,
  ⟨⟨some 38, .mv (.t 9), none⟩, 0, [], [], 0⟩,
  ⟨⟨some 39, .mv (.t 0), none⟩, 0, [], [], 0⟩,
  ⟨⟨some 40, .mv (.t 9), none⟩, 0, [], [], 0⟩,
  ⟨⟨some 41, .bin .sub (.t 40) (.c (.i .i64 (.ofNat 1))), none⟩, 0, [3], [], 0⟩,
  ⟨⟨some 42, .mv (.t 0), none⟩, 0, [], [], 0⟩,
  ⟨⟨some 43, .mv (.t 9), none⟩, 0, [], [], 0⟩,
  ⟨⟨some 44, .bin .sub (.t 43) (.c (.i .i64 (.ofNat 1))), none⟩, 0, [6], [], 0⟩,
  ⟨⟨some 45, .iadS 36 (.t 42) (.t 44), none⟩, 0, [5, 6, 7], [], 0⟩,
  ⟨⟨some 46, .ld true 36 (.t 45), none⟩, 1, [5, 6, 7, 8], [], 0⟩,
  ⟨⟨some 47, .mv (.t 0), none⟩, 0, [], [], 0⟩,
  ⟨⟨some 48, .mv (.t 9), none⟩, 0, [], [], 0⟩,
  ⟨⟨some 49, .iadS 36 (.t 47) (.t 48), none⟩, 0, [10, 11], [], 0⟩,
  ⟨⟨some 50, .ld true 36 (.t 49), none⟩, 1, [10, 11, 12], [], 0⟩,
  ⟨⟨some 51, .iadS 36 (.t 37) (.t 38), none⟩, 0, [0, 1, 5, 6, 7, 8, 9, 10, 11, 12, 13], [], 0⟩,
  ⟨⟨none, .st 36 (.t 51) (.t 46), none⟩, 2, [0, 1, 5, 6, 7, 8, 9, 10, 11, 12, 13, 14], [], 0⟩,
  ⟨⟨some 52, .iadS 36 (.t 39) (.t 41), none⟩, 0, [0, 1, 2, 3, 4, 5, 6, 7, 8, 9, 10, 11, 12, 13, 14, 15], [], 0⟩,
  ⟨⟨none, .st 36 (.t 52) (.t 50), none⟩, 2, [0, 1, 2, 3, 4, 5, 6, 7, 8, 9, 10, 11, 12, 13, 14, 15, 16], [], 0⟩]))
 (.reg [⟨some 35, .mv (.t 9), none⟩,
  ⟨some 36, .bin .sub (.t 35) (.c (.i .i64 (.ofNat 1))), none⟩,
  ⟨some 9, .mv (.t 36), none⟩])))))))
 (.reg [⟨some 15, .mv (.t 8), none⟩,
  ⟨some 16, .bin .add (.t 15) (.c (.i .i64 (.ofNat 1))), none⟩,
  ⟨some 8, .mv (.t 16), none⟩]))))), []⟩
def d234 : FDef := ⟨220, .seq (.seq (.reg [⟨some 25, .mv (.t 2), none⟩,
  ⟨some 26, .mv (.t 1), none⟩,
  ⟨some 27, .bin .sub (.t 25) (.t 26), none⟩,
  ⟨some 28, .bin .eql (.t 27) (.c (.i .i64 (.ofNat 1))), none⟩])
 (.cond (.t 28) (.seq (.reg [⟨some 29, .mv (.t 2), none⟩,
  ⟨some 10, .mv (.t 29), none⟩])
 (.seq (.reg [⟨some 30, .mv (.t 3), none⟩,
  ⟨some 11, .mv (.t 30), none⟩])
 (.seq (.block 0 (.loop (.seq (.seq (.reg [⟨some 31, .mv (.t 10), none⟩,
  ⟨some 32, .mv (.t 11), none⟩,
  ⟨some 33, .bin .lss (.t 31) (.t 32), none⟩])
 (.cond (.t 33) (.skip)
 (.exit 0)))
 (.block 1 (.seq (.reg [⟨some 34, .mv (.t 10), none⟩,
  ⟨some 35, .mv (.t 11), none⟩,
  ⟨some 36, .bin .add (.t 34) (.t 35), none⟩,
  ⟨some 37, .conv .u64 (.t 36), none⟩,
  ⟨some 38, .bin .shr (.t 37) (.c (.i .u64 (.ofNat 1))), none⟩,
  ⟨some 39, .conv .i64 (.t 38), none⟩,
  ⟨some 12, .mv (.t 39), none⟩])
 (.seq (.dreg 0 [⟨⟨some 40, .mv (.t 4), none⟩, 0, [], [], 0⟩,
  ⟨⟨some 41, .mv (.t 0), none⟩, 0, [], [], 0⟩,
  ⟨⟨some 42, .mv (.t 12), none⟩, 0, [], [], 0⟩,
  ⟨⟨some 43, .iadS 36 (.t 41) (.t 42), none⟩, 0, [1, 2], [], 0⟩,
  ⟨⟨some 44, .ld true 36 (.t 43), none⟩, 1, [1, 2, 3], [], 0⟩,
  ⟨⟨some 45, .mv (.t 0), none⟩, 0, [], [], 0⟩,
  ⟨⟨some 46, .mv (.t 1), none⟩, 0, [], [], 0⟩,
  ⟨⟨some 47, .iadS 36 (.t 45) (.t 46), none⟩, 0, [5, 6], [], 0⟩,
  ⟨⟨some 48, .ld true 36 (.t 47), none⟩, 1, [5, 6, 7], [], 0⟩,
  ⟨⟨some 49, .callV (.t 40) [(.t 44), (.t 48)], none⟩, 2, [0, 1, 2, 3, 4, 5, 6, 7, 8], [], 0⟩,
  ⟨⟨some 50, .bin .lss (.t 49) (.c (.i .i64 (.ofNat 0))), none⟩, 0, [0, 1, 2, 3, 4, 5, 6, 7, 8, 9], [], 0⟩])
 (.cond (.t 50) (.reg [⟨some 51, .mv (.t 12), none⟩,
  ⟨some 52, .bin .add (.t 51) (.c (.i .i64 (.ofNat 1))), none⟩,
  ⟨some 10, .mv (.t 52), none⟩])
 (.reg [⟨some 53, .mv (.t 12), none⟩,
  ⟨some 11, .mv (.t 53), none⟩]))))))))
 (.seq (.seq (.reg [⟨some 54, .mv (.t 1), none⟩,
  ⟨some 13, .mv (.t 54), none⟩])
 (.block 2 (.loop (.seq (.seq (.reg [⟨some 55, .mv (.t 13), none⟩,
  ⟨some 56, .mv (.t 10), none⟩,
  ⟨some 57, .bin .sub (.t 56) (.c (.i .i64 (.ofNat 1))), none⟩,
  ⟨some 58, .bin .lss (.t 55) (.t 57), none⟩])
 (.cond (.t 58) (.skip)
 (.exit 2)))
 (.seq (.block 3 (.dreg 0 [⟨⟨some 61, .mv (.t 0), none⟩, 0, [], [], 0⟩,
  ⟨⟨some 62, .mv (.t 13), none⟩, 0, [], [], 0⟩,
  ⟨⟨some 63, .mv (.t 0), none⟩, 0, [], [], 0⟩,
  ⟨⟨some 64, .mv (.t 13), none⟩, 0, [], [], 0⟩,
  ⟨⟨some 65, .bin .add (.t 64) (.c (.i .i64 (.ofNat 1))), none⟩, 0, [3], [], 0⟩,
  ⟨⟨some 66, .mv (.t 0), none⟩, 0, [], [], 0⟩,
  ⟨⟨some 67, .mv (.t 13), none⟩, 0, [], [], 0⟩,
  ⟨⟨some 68, .bin .add (.t 67) (.c (.i .i64 (.ofNat 1))), none⟩, 0, [6], [], 0⟩,
  ⟨⟨some 69, .iadS 36 (.t 66) (.t 68), none⟩, 0, [5, 6, 7], [], 0⟩,
  ⟨⟨some 70, .ld true 36 (.t 69), none⟩, 1, [5, 6, 7, 8], [], 0⟩,
  ⟨⟨some 71, .mv (.t 0), none⟩, 0, [], [], 0⟩,
  ⟨⟨some 72, .mv (.t 13), none⟩, 0, [], [], 0⟩,
  ⟨⟨some 73, .iadS 36 (.t 71) (.t 72), none⟩, 0, [10, 11], [], 0⟩,
  ⟨⟨some 74, .ld true 36 (.t 73), none⟩, 1, [10, 11, 12], [], 0⟩,
  ⟨⟨some 75, .iadS 36 (.t 61) (.t 62), none⟩, 0, [0, 1, 5, 6, 7, 8, 9, 10, 11, 12, 13], [], 0⟩,
  ⟨⟨none, .st 36 (.t 75) (.t 70), none⟩, 2, [0, 1, 5, 6, 7, 8, 9, 10, 11, 12, 13, 14], [], 0⟩,
  ⟨⟨some 76, .iadS 36 (.t 63) (.t 65), none⟩, 0, [0, 1, 2, 3, 4, 5, 6, 7, 8, 9, 10, 11, 12, 13, 14, 15], [], 0⟩,
  ⟨⟨none, .st 36 (.t 76) (.t 74), none⟩, 2, [0, 1, 2, 3, 4, 5, 6, 7, 8, 9, 10, 11, 12, 13, 14, 15, 16], [], 0⟩]))
 (.reg [⟨some 59, .mv (.t 13), none⟩,
  ⟨some 60, .bin .add (.t 59) (.c (.i .i64 (.ofNat 1))), none⟩,
  ⟨some 13, .mv (.t 60), none⟩]))))))
 (.ret)))))
 (.skip)))
 (.seq (.seq (.reg [⟨some 77, .mv (.t 3), none⟩,
  ⟨some 78, .mv (.t 2), none⟩,
  ⟨some 79, .bin .sub (.t 77) (.t 78), none⟩,
  ⟨some 80, .bin .eql (.t 79) (.c (.i .i64 (.ofNat 1))), none⟩])
 (.cond (.t 80) (.seq (.reg [⟨some 81, .mv (.t 1), none⟩,
  ⟨some 14, .mv (.t 81), none⟩])
 (.seq (.reg [⟨some 82, .mv (.t 2), none⟩,
  ⟨some 15, .mv (.t 82), none⟩])
 (.seq (.block 4 (.loop (.seq (.seq (.reg [⟨some 83, .mv (.t 14), none⟩,
  ⟨some 84, .mv (.t 15), none⟩,
  ⟨some 85, .bin .lss (.t 83) (.t 84), none⟩])
 (.cond (.t 85) (.skip)
 (.exit 4)))
 (.block 5 (.seq (.reg [⟨some 86, .mv (.t 14), none⟩,
  ⟨some 87, .mv (.t 15), none⟩,
  ⟨some 88, .bin .add (.t 86) (.t 87), none⟩,
  ⟨some 89, .conv .u64 (.t 88), none⟩,
  ⟨some 90, .bin .shr (.t 89) (.c (.i .u64 (.ofNat 1))), none⟩,
  ⟨some 91, .conv .i64 (.t 90), none⟩,
  ⟨some 16, .mv (.t 91), none⟩])
 (.seq (.dreg 0 [⟨⟨some 92, .mv (.t 4), none⟩, 0, [], [], 0⟩,
  ⟨⟨some 93, .mv (.t 0), none⟩, 0, [], [], 0⟩,
  ⟨⟨some 94, .mv (.t 2), none⟩, 0, [], [], 0⟩,
  ⟨⟨some 95, .iadS 36 (.t 93) (.t 94), none⟩, 0, [1, 2], [], 0⟩,
  ⟨⟨some 96, .ld true 36 (.t 95), none⟩, 1, [1, 2, 3], [], 0⟩,
  ⟨⟨some 97, .mv (.t 0), none⟩, 0, [], [], 0⟩,
  ⟨⟨some 98, .mv (.t 16), none⟩, 0, [], [], 0⟩,
  ⟨⟨some 99, .iadS 36 (.t 97) (.t 98), none⟩, 0, [5, 6], [], 0⟩,
  ⟨⟨some 100, .ld true 36 (.t 99), none⟩, 1, [5, 6, 7], [], 0⟩,
  ⟨⟨some 101, .callV (.t 92) [(.t 96), (.t 100)], none⟩, 2, [0, 1, 2, 3, 4, 5, 6, 7, 8], [], 0⟩,
  ⟨⟨some 102, .bin .lss (.t 101) (.c (.i .i64 (.ofNat 0))), none⟩, 0, [0, 1, 2, 3, 4, 5, 6, 7, 8, 9], [], 0⟩,
  ⟨⟨some 103, .un .not (.t 102), none⟩, 0, [0, 1, 2, 3, 4, 5, 6, 7, 8, 9, 10], [], 0⟩])
 (.cond (.t 103) (.reg [⟨some 104, .mv (.t 16), none⟩,
  ⟨some 105, .bin .add (.t 104) (.c (.i .i64 (.ofNat 1))), none⟩,
  ⟨some 14, .mv (.t 105), none⟩])
 (.reg [⟨some 106, .mv (.t 16), none⟩,
  ⟨some 15, .mv (.t 106), none⟩]))))))))
 (.seq (.seq (.reg [⟨some 107, .mv (.t 2), none⟩,
  ⟨some 17, .mv (.t 107), none⟩])
 (.block 6 (.loop (.seq (.seq (.reg [⟨some 108, .mv (.t 17), none⟩,
  ⟨some 109, .mv (.t 14), none⟩,
  ⟨some 110, .bin .gtr (.t 108) (.t 109), none⟩])
 (.cond (.t 110) (.skip)
 (.exit 6)))
 (.seq (.block 7 (.dreg 0 [⟨⟨some 113, .mv (.t 0), none⟩, 0, [], [], 0⟩,
  ⟨⟨some 114, .mv (.t 17), none⟩, 0, [], [], 0⟩,
  ⟨⟨some 115, .mv (.t 0), none⟩, 0, [], [], 0⟩,
  ⟨⟨some 116, .mv (.t 17), none⟩, 0, [], [], 0⟩,
  ⟨⟨some 117, .bin .sub (.t 116) (.c (.i .i64 (.ofNat 1))), none⟩, 0, [3], [], 0⟩,
  ⟨⟨some 118, .mv (.t 0), none⟩, 0, [], [], 0⟩,
  ⟨⟨some 119, .mv (.t 17), none⟩, 0, [], [], 0⟩,
  ⟨⟨some 120, .bin .sub (.t 119) (.c (.i .i64 (.ofNat 1))), none⟩, 0, [6], [], 0⟩,
  ⟨⟨some 121, .iadS 36 (.t 118) (.t 120), none⟩, 0, [5, 6, 7], [], 0⟩,
  ⟨⟨some 122, .ld true 36 (.t 121), none⟩, 1, [5, 6, 7, 8], [], 0⟩,
  ⟨⟨some 123, .mv (.t 0), none⟩, 0, [], [], 0⟩,
  ⟨⟨some 124, .mv (.t 17), none⟩, 0, [], [], 0⟩,
  ⟨⟨some 125, .iadS 36 (.t 123) (.t 124), none⟩, 0, [10, 11], [], 0⟩,
  ⟨⟨some 126, .ld true 36 (.t 125), none⟩, 1, [10, 11, 12], [], 0⟩,
  ⟨⟨some 127, .iadS 36 (.t 113) (.t 114), none⟩, 0, [0, 1, 5, 6, 7, 8, 9, 10, 11, 12, 13], [], 0⟩,
  ⟨⟨none, .st 36 (.t 127) (.t 122), none⟩, 2, [0, 1, 5, 6, 7, 8, 9, 10, 11, 12, 13, 14], [], 0⟩,
  ⟨⟨some 128, .iadS 36 (.t 115) (.t 117), none⟩, 0, [0, 1, 2, 3, 4, 5, 6, 7, 8, 9, 10, 11, 12, 13, 14, 15], [], 0⟩,
  ⟨⟨none, .st 36 (.t 128) (.t 126), none⟩, 2, [0, 1, 2, 3, 4, 5, 6, 7, 8, 9, 10, 11, 12, 13, 14, 15, 16], [], 0⟩]))
 (.reg [⟨some 111, .mv (.t 17), none⟩,
  ⟨some 112, .bin .sub (.t 111) (.c (.i .i64 (.ofNat 1))), none⟩,
  ⟨some 17, .mv (.t 112), none⟩]))))))
 (.ret)))))
 (.skip)))
 (.seq (.reg [⟨some 129, .mv (.t 1), none⟩,
  ⟨some 130, .mv (.t 3), none⟩,
  ⟨some 131, .bin .add (.t 129) (.t 130), none⟩,
  ⟨some 132, .conv .u64 (.t 131), none⟩,
  ⟨some 133, .bin .shr (.t 132) (.c (.i .u64 (.ofNat 1))), none⟩,
  ⟨some 134, .conv .i64 (.t 133), none⟩,
  ⟨some 18, .mv (.t 134), none⟩])
 (.seq (.reg [⟨some 135, .mv (.t 18), none⟩,
  ⟨some 136, .mv (.t 2), none⟩,
  ⟨some 137, .bin .add (.t 135) (.t 136), none⟩,
  ⟨some 19, .mv (.t 137), none⟩])
 (.seq (.reg [⟨some 20, .mv (.c (.i .i64 (.ofNat 0))), none⟩,
  ⟨some 21, .mv (.c (.i .i64 (.ofNat 0))), none⟩])
 (.seq (.seq (.reg [⟨some 138, .mv (.t 2), none⟩,
  ⟨some 139, .mv (.t 18), none⟩,
  ⟨some 140, .bin .gtr (.t 138) (.t 139), none⟩])
 (.cond (.t 140) (.seq (.reg [⟨some 141, .mv (.t 19), none⟩,
  ⟨some 142, .mv (.t 3), none⟩,
  ⟨some 143, .bin .sub (.t 141) (.t 142), none⟩,
  ⟨some 20, .mv (.t 143), none⟩])
 (.reg [⟨some 144, .mv (.t 18), none⟩,
  ⟨some 21, .mv (.t 144), none⟩]))
 (.seq (.reg [⟨some 145, .mv (.t 1), none⟩,
  ⟨some 20, .mv (.t 145), none⟩])
 (.reg [⟨some 146, .mv (.t 2), none⟩,
  ⟨some 21, .mv (.t 146), none⟩]))))
 (.seq (.reg [⟨some 147, .mv (.t 19), none⟩,
  ⟨some 148, .bin .sub (.t 147) (.c (.i .i64 (.ofNat 1))), none⟩,
  ⟨some 22, .mv (.t 148), none⟩])
 (.seq (.block 8 (.loop (.seq (.seq (.reg [⟨some 149, .mv (.t 20), none⟩,
  ⟨some 150, .mv (.t 21), none⟩,
  ⟨some 151, .bin .lss (.t 149) (.t 150), none⟩])
 (.cond (.t 151) (.skip)
 (.exit 8)))
 (.block 9 (.seq (.reg [⟨some 152, .mv (.t 20), none⟩,
  ⟨some 153, .mv (.t 21), none⟩,
  ⟨some 154, .bin .add (.t 152) (.t 153), none⟩,
  ⟨some 155, .conv .u64 (.t 154), none⟩,
  ⟨some 156, .bin .shr (.t 155) (.c (.i .u64 (.ofNat 1))), none⟩,
  ⟨some 157, .conv .i64 (.t 156), none⟩,
  ⟨some 23, .mv (.t 157), none⟩])
 (.seq (.dreg 0 [⟨⟨some 158, .mv (.t 4), none⟩, 0, [], [], 0⟩,
  ⟨⟨some 159, .mv (.t 0), none⟩, 0, [], [], 0⟩,
  ⟨⟨some 160, .mv (.t 22), none⟩, 0, [], [], 0⟩,
  ⟨⟨some 161, .mv (.t 23), none⟩, 0, [], [], 0⟩,
  ⟨⟨some 162, .bin .sub (.t 160) (.t 161), none⟩, 0, [2, 3], [], 0⟩,
  ⟨⟨some 163, .iadS 36 (.t 159) (.t 162), none⟩, 0, [1, 2, 3, 4], [], 0⟩,
  ⟨⟨some 164, .ld true 36 (.t 163), none⟩, 1, [1, 2, 3, 4, 5], [], 0⟩,
  ⟨⟨some 165, .mv (.t 0), none⟩, 0, [], [], 0⟩,
  ⟨⟨some 166, .mv (.t 23), none⟩, 0, [], [], 0⟩,
  ⟨⟨some 167, .iadS 36 (.t 165) (.t 166), none⟩, 0, [7, 8], [], 0⟩,
  ⟨⟨some 168, .ld true 36 (.t 167), none⟩, 1, [7, 8, 9], [], 0⟩,
  ⟨⟨some 169, .callV (.t 158) [(.t 164), (.t 168)], none⟩, 2, [0, 1, 2, 3, 4, 5, 6, 7, 8, 9, 10], [], 0⟩,
  ⟨⟨some 170, .bin .lss (.t 169) (.c (.i .i64 (.ofNat 0))), none⟩, 0, [0, 1, 2, 3, 4, 5, 6, 7, 8, 9, 10, 11], [], 0⟩,
  ⟨⟨some 171, .un .not (.t 170), none⟩, 0, [0, 1, 2, 3, 4, 5, 6, 7, 8, 9, 10, 11, 12], [], 0⟩])
 (.cond (.t 171) (.reg [⟨some 172, .mv (.t 23), none⟩,
  ⟨some 173, .bin .add (.t 172) (.c (.i .i64 (.ofNat 1))), none⟩,
  ⟨some 20, .mv (.t 173), none⟩])
 (.reg [⟨some 174, .mv (.t 23), none⟩,
  ⟨some 21, .mv (.t 174), none⟩]))))))))
 (.seq (.reg [⟨some 175, .mv (.t 19), none⟩,
  ⟨some 176, .mv (.t 20), none⟩,
  ⟨some 177, .bin .sub (.t 175) (.t 176), none⟩,
  ⟨some 24, .mv (.t 177), none⟩])
 (.seq (.seq (.reg [⟨some 178, .mv (.t 20), none⟩,
  ⟨some 179, .mv (.t 2), none⟩,
  ⟨some 180, .bin .lss (.t 178) (.t 179), none⟩,
  ⟨some 181, .mv (.t 180), none⟩,
  ⟨some 182, .mv (.t 2), (some (181, true))⟩,
  ⟨some 183, .mv (.t 24), (some (181, true))⟩,
  ⟨some 184, .bin .lss (.t 182) (.t 183), (some (181, true))⟩,
  ⟨some 185, .pick (.t 181) (.t 184) (.c (.b false)), none⟩])
 (.cond (.t 185) (.reg [⟨some 186, .mv (.t 0), none⟩,
  ⟨some 187, .mv (.t 20), none⟩,
  ⟨some 188, .mv (.t 2), none⟩,
  ⟨some 189, .mv (.t 24), none⟩,
  ⟨some 190, .mv (.t 4), none⟩,
  ⟨some 191, .call 239 [(.t 186), (.t 187), (.t 188), (.t 189), (.t 190)], none⟩])
 (.skip)))
 (.seq (.seq (.reg [⟨some 192, .mv (.t 1), none⟩,
  ⟨some 193, .mv (.t 20), none⟩,
  ⟨some 194, .bin .lss (.t 192) (.t 193), none⟩,
  ⟨some 195, .mv (.t 194), none⟩,
  ⟨some 196, .mv (.t 20), (some (195, true))⟩,
  ⟨some 197, .mv (.t 18), (some (195, true))⟩,
  ⟨some 198, .bin .lss (.t 196) (.t 197), (some (195, true))⟩,
  ⟨some 199, .pick (.t 195) (.t 198) (.c (.b false)), none⟩])
 (.cond (.t 199) (.reg [⟨some 200, .mv (.t 0), none⟩,
  ⟨some 201, .mv (.t 1), none⟩,
  ⟨some 202, .mv (.t 20), none⟩,
  ⟨some 203, .mv (.t 18), none⟩,
  ⟨some 204, .mv (.t 4), none⟩,
  ⟨some 205, .call 234 [(.t 200), (.t 201), (.t 202), (.t 203), (.t 204)], none⟩])
 (.skip)))
 (.seq (.reg [⟨some 206, .mv (.t 18), none⟩,
  ⟨some 207, .mv (.t 24), none⟩,
  ⟨some 208, .bin .lss (.t 206) (.t 207), none⟩,
  ⟨some 209, .mv (.t 208), none⟩,
  ⟨some 210, .mv (.t 24), (some (209, true))⟩,
  ⟨some 211, .mv (.t 3), (some (209, true))⟩,
  ⟨some 212, .bin .lss (.t 210) (.t 211), (some (209, true))⟩,
  ⟨some 213, .pick (.t 209) (.t 212) (.c (.b false)), none⟩])
 (.cond (.t 213) (.reg [⟨some 214, .mv (.t 0), none⟩,
  ⟨some 215, .mv (.t 18), none⟩,
  ⟨some 216, .mv (.t 24), none⟩,
  ⟨some 217, .mv (.t 3), none⟩,
  ⟨some 218, .mv (.t 4), none⟩,
  ⟨some 219, .call 234 [(.t 214), (.t 215), (.t 216), (.t 217), (.t 218)], none⟩])
 (.skip))))))))))))), []⟩
def d235 : FDef := ⟨17, .seq (.reg [⟨some 4, .mv (.c (.i .u32 (.ofNat 0))), none⟩,
  ⟨some 5, .mv (.c (.i .u32 (.ofNat 0))), none⟩])
 (.seq (.reg [⟨some 7, .mv (.t 0), none⟩,
  ⟨some 8, .conv .u64 (.t 7), none⟩,
  ⟨some 9, .mv (.t 1), none⟩,
  ⟨some 10, .conv .u64 (.t 9), none⟩,
  ⟨some 11, .bin .mul (.t 8) (.t 10), none⟩,
  ⟨some 6, .mv (.t 11), none⟩])
 (.seq (.reg [⟨some 12, .mv (.t 6), none⟩,
  ⟨some 13, .bin .shr (.t 12) (.c (.i .u64 (.ofNat 32))), none⟩,
  ⟨some 14, .conv .u32 (.t 13), none⟩,
  ⟨some 15, .mv (.t 6), none⟩,
  ⟨some 16, .conv .u32 (.t 15), none⟩,
  ⟨some 4, .mv (.t 14), none⟩,
  ⟨some 5, .mv (.t 16), none⟩])
 (.ret))), [.t 4, .t 5]⟩
def d236 : FDef := ⟨30, .seq (.dreg 0 [⟨⟨some 5, .mv (.t 0), none⟩, 0, [], [], 0⟩,
  ⟨⟨some 6, .nilChk (.t 5), none⟩, 0, [0], [], 0⟩,
  ⟨⟨some 7, .fad 1 (.t 6), none⟩, 0, [0, 1], [], 0⟩,
  ⟨⟨some 8, .ld false 1 (.t 7), none⟩, 1, [0, 1, 2], [], 0⟩,
  ⟨⟨some 9, .capS (.t 8), none⟩, 0, [0, 1, 2, 3], [], 0⟩,
  ⟨⟨some 10, .bin .mul (.c (.i .i64 (.ofNat 2))) (.t 9), none⟩, 0, [0, 1, 2, 3, 4], [], 0⟩,
  ⟨⟨some 11, .mv (.t 1), none⟩, 0, [], [], 0⟩,
  ⟨⟨some 12, .bin .add (.t 10) (.t 11), none⟩, 0, [0, 1, 2, 3, 4, 5, 6], [], 0⟩,
  ⟨⟨some 13, .call 240 [(.t 12)], none⟩, 2, [0, 1, 2, 3, 4, 5, 6, 7], [], 0⟩,
  ⟨⟨some 14, .mv (.t 0), none⟩, 0, [], [], 0⟩,
  ⟨⟨some 15, .nilChk (.t 14), none⟩, 0, [9], [], 0⟩,
  ⟨⟨some 16, .fad 1 (.t 15), none⟩, 0, [9, 10], [], 0⟩,
  ⟨⟨some 17, .ld false 1 (.t 16), none⟩, 1, [9, 10, 11], [], 0⟩,
  ⟨⟨some 18, .lenS (.t 17), none⟩, 0, [9, 10, 11, 12], [], 0⟩,
  ⟨⟨some 19, .slcS 1 (.t 13) none (some (.t 18)) none, none⟩, 1, [0, 1, 2, 3, 4, 5, 6, 7, 8, 9, 10, 11, 12, 13], [], 0⟩,
  ⟨⟨some 4, .mv (.t 19), none⟩, 0, [0, 1, 2, 3, 4, 5, 6, 7, 8, 9, 10, 11, 12, 13, 14], [], 0⟩])
 (.seq (.reg [⟨some 20, .mv (.t 4), none⟩,
  ⟨some 21, .mv (.t 0), none⟩,
  ⟨some 22, .nilChk (.t 21), none⟩,
  ⟨some 23, .fad 1 (.t 22), none⟩,
  ⟨some 24, .ld false 1 (.t 23), none⟩,
  ⟨some 25, .copy 1 (.t 20) (.t 24), none⟩])
 (.reg [⟨some 26, .mv (.t 0), none⟩,
  ⟨some 27, .mv (.t 4), none⟩,
  ⟨some 28, .nilChk (.t 26), none⟩,
  ⟨some 29, .fad 1 (.t 28), none⟩,
  ⟨none, .st 1 (.t 29) (.t 27), none⟩])), []⟩
def d237 : FDef := ⟨117, .seq (.reg [⟨some 2, .mv (.c (.i .i32 (.ofNat 0))), none⟩,
  ⟨some 3, .mv (.c (.i .i64 (.ofNat 0))), none⟩])
 (.seq (.reg [⟨some 13, .mv (.t 0), none⟩,
  ⟨some 14, .lenT (.t 13), none⟩,
  ⟨some 4, .mv (.t 14), none⟩])
 (.seq (.seq (.reg [⟨some 15, .mv (.t 4), none⟩,
  ⟨some 16, .bin .lss (.t 15) (.c (.i .i64 (.ofNat 1))), none⟩])
 (.cond (.t 16) (.seq (.reg [⟨some 2, .mv (.c (.i .i32 (.ofNat 65533))), none⟩,
  ⟨some 3, .mv (.c (.i .i64 (.ofNat 0))), none⟩])
 (.ret))
 (.skip)))
 (.seq (.reg [⟨some 17, .mv (.t 0), none⟩,
  ⟨some 18, .idxT (.t 17) (.c (.i .i64 (.ofNat 0))), none⟩,
  ⟨some 5, .mv (.t 18), none⟩])
 (.seq (.bad)
 (.seq (.seq (.reg [⟨some 22, .mv (.t 6), none⟩,
  ⟨some 23, .bin .geq (.t 22) (.c (.i .u8 (.ofNat 240))), none⟩])
 (.cond (.t 23) (.seq (.reg [⟨some 24, .mv (.t 6), none⟩,
  ⟨some 25, .conv .i32 (.t 24), none⟩,
  ⟨some 26, .bin .shl (.t 25) (.c (.i .u64 (.ofNat 31))), none⟩,
  ⟨some 27, .bin .shr (.t 26) (.c (.i .u64 (.ofNat 31))), none⟩,
  ⟨some 7, .mv (.t 27), none⟩])
 (.seq (.reg [⟨some 28, .mv (.t 0), none⟩,
  ⟨some 29, .idxT (.t 28) (.c (.i .i64 (.ofNat 0))), none⟩,
  ⟨some 30, .conv .i32 (.t 29), none⟩,
  ⟨some 31, .mv (.t 7), none⟩,
  ⟨some 32, .bin .andNot (.t 30) (.t 31), none⟩,
  ⟨some 33, .mv (.t 7), none⟩,
  ⟨some 34, .bin .and (.c (.i .i32 (.ofNat 65533))) (.t 33), none⟩,
  ⟨some 35, .bin .or (.t 32) (.t 34), none⟩,
  ⟨some 2, .mv (.t 35), none⟩,
  ⟨some 3, .mv (.c (.i .i64 (.ofNat 1))), none⟩])
 (.ret)))
 (.skip)))
 (.seq (.reg [⟨some 36, .mv (.t 6), none⟩,
  ⟨some 37, .bin .and (.t 36) (.c (.i .u8 (.ofNat 7))), none⟩,
  ⟨some 38, .conv .i64 (.t 37), none⟩,
  ⟨some 8, .mv (.t 38), none⟩])
 (.seq (.bad)
 (.seq (.seq (.reg [⟨some 43, .mv (.t 4), none⟩,
  ⟨some 44, .mv (.t 8), none⟩,
  ⟨some 45, .bin .lss (.t 43) (.t 44), none⟩])
 (.cond (.t 45) (.seq (.reg [⟨some 2, .mv (.c (.i .i32 (.ofNat 65533))), none⟩,
  ⟨some 3, .mv (.c (.i .i64 (.ofNat 1))), none⟩])
 (.ret))
 (.skip)))
 (.seq (.reg [⟨some 46, .mv (.t 0), none⟩,
  ⟨some 47, .idxT (.t 46) (.c (.i .i64 (.ofNat 1))), none⟩,
  ⟨some 10, .mv (.t 47), none⟩])
 (.seq (.seq (.reg [⟨some 48, .mv (.t 10), none⟩,
  ⟨some 49, .fad 0 (.t 9), none⟩,
  ⟨some 50, .ld false 1 (.t 49), none⟩,
  ⟨some 51, .bin .lss (.t 48) (.t 50), none⟩,
  ⟨some 52, .mv (.t 51), none⟩,
  ⟨some 53, .fad 1 (.t 9), (some (52, false))⟩,
  ⟨some 54, .ld false 1 (.t 53), (some (52, false))⟩,
  ⟨some 55, .mv (.t 10), (some (52, false))⟩,
  ⟨some 56, .bin .lss (.t 54) (.t 55), (some (52, false))⟩,
  ⟨some 57, .pick (.t 52) (.c (.b true)) (.t 56), none⟩])
 (.cond (.t 57) (.seq (.reg [⟨some 2, .mv (.c (.i .i32 (.ofNat 65533))), none⟩,
  ⟨some 3, .mv (.c (.i .i64 (.ofNat 1))), none⟩])
 (.ret))
 (.skip)))
 (.seq (.seq (.reg [⟨some 58, .mv (.t 8), none⟩,
  ⟨some 59, .bin .leq (.t 58) (.c (.i .i64 (.ofNat 2))), none⟩])
 (.cond (.t 59) (.seq (.reg [⟨some 60, .mv (.t 5), none⟩,
  ⟨some 61, .bin .and (.t 60) (.c (.i .u8 (.ofNat 31))), none⟩,
  ⟨some 62, .conv .i32 (.t 61), none⟩,
  ⟨some 63, .bin .shl (.t 62) (.c (.i .u64 (.ofNat 6))), none⟩,
  ⟨some 64, .mv (.t 10), none⟩,
  ⟨some 65, .bin .and (.t 64) (.c (.i .u8 (.ofNat 63))), none⟩,
  ⟨some 66, .conv .i32 (.t 65), none⟩,
  ⟨some 67, .bin .or (.t 63) (.t 66), none⟩,
  ⟨some 2, .mv (.t 67), none⟩,
  ⟨some 3, .mv (.c (.i .i64 (.ofNat 2))), none⟩])
 (.ret))
 (.skip)))
 (.seq (.reg [⟨some 68, .mv (.t 0), none⟩,
  ⟨some 69, .idxT (.t 68) (.c (.i .i64 (.ofNat 2))), none⟩,
  ⟨some 11, .mv (.t 69), none⟩])
 (.seq (.seq (.reg [⟨some 70, .mv (.t 11), none⟩,
  ⟨some 71, .bin .lss (.t 70) (.c (.i .u8 (.ofNat 128))), none⟩,
  ⟨some 72, .mv (.t 71), none⟩,
  ⟨some 73, .mv (.t 11), (some (72, false))⟩,
  ⟨some 74, .bin .lss (.c (.i .u8 (.ofNat 191))) (.t 73), (some (72, false))⟩,
  ⟨some 75, .pick (.t 72) (.c (.b true)) (.t 74), none⟩])
 (.cond (.t 75) (.seq (.reg [⟨some 2, .mv (.c (.i .i32 (.ofNat 65533))), none⟩,
  ⟨some 3, .mv (.c (.i .i64 (.ofNat 1))), none⟩])
 (.ret))
 (.skip)))
 (.seq (.seq (.reg [⟨some 76, .mv (.t 8), none⟩,
  ⟨some 77, .bin .leq (.t 76) (.c (.i .i64 (.ofNat 3))), none⟩])
 (.cond (.t 77) (.seq (.reg [⟨some 78, .mv (.t 5), none⟩,
  ⟨some 79, .bin .and (.t 78) (.c (.i .u8 (.ofNat 15))), none⟩,
  ⟨some 80, .conv .i32 (.t 79), none⟩,
  ⟨some 81, .bin .shl (.t 80) (.c (.i .u64 (.ofNat 12))), none⟩,
  ⟨some 82, .mv (.t 10), none⟩,
  ⟨some 83, .bin .and (.t 82) (.c (.i .u8 (.ofNat 63))), none⟩,
  ⟨some 84, .conv .i32 (.t 83), none⟩,
  ⟨some 85, .bin .shl (.t 84) (.c (.i .u64 (.ofNat 6))), none⟩,
  ⟨some 86, .bin .or (.t 81) (.t 85), none⟩,
  ⟨some 87, .mv (.t 11), none⟩,
  ⟨some 88, .bin .and (.t 87) (.c (.i .u8 (.ofNat 63))), none⟩,
  ⟨some 89, .conv .i32 (.t 88), none⟩,
  ⟨some 90, .bin .or (.t 86) (.t 89), none⟩,
  ⟨some 2, .mv (.t 90), none⟩,
  ⟨some 3, .mv (.c (.i .i64 (.ofNat 3))), none⟩])
 (.ret))
 (.skip)))
 (.seq (.reg [⟨some 91, .mv (.t 0), none⟩,
  ⟨some 92, .idxT (.t 91) (.c (.i .i64 (.ofNat 3))), none⟩,
  ⟨some 12, .mv (.t 92), none⟩])
 (.seq (.seq (.reg [⟨some 93, .mv (.t 12), none⟩,
  ⟨some 94, .bin .lss (.t 93) (.c (.i .u8 (.ofNat 128))), none⟩,
  ⟨some 95, .mv (.t 94), none⟩,
  ⟨some 96, .mv (.t 12), (some (95, false))⟩,
  ⟨some 97, .bin .lss (.c (.i .u8 (.ofNat 191))) (.t 96), (some (95, false))⟩,
  ⟨some 98, .pick (.t 95) (.c (.b true)) (.t 97), none⟩])
 (.cond (.t 98) (.seq (.reg [⟨some 2, .mv (.c (.i .i32 (.ofNat 65533))), none⟩,
  ⟨some 3, .mv (.c (.i .i64 (.ofNat 1))), none⟩])
 (.ret))
 (.skip)))
 (.seq (.reg [⟨some 99, .mv (.t 5), none⟩,
  ⟨some 100, .bin .and (.t 99) (.c (.i .u8 (.ofNat 7))), none⟩,
  ⟨some 101, .conv .i32 (.t 100), none⟩,
  ⟨some 102, .bin .shl (.t 101) (.c (.i .u64 (.ofNat 18))), none⟩,
  ⟨some 103, .mv (.t 10), none⟩,
  ⟨some 104, .bin .and (.t 103) (.c (.i .u8 (.ofNat 63))), none⟩,
  ⟨some 105, .conv .i32 (.t 104), none⟩,
  ⟨some 106, .bin .shl (.t 105) (.c (.i .u64 (.ofNat 12))), none⟩,
  ⟨some 107, .bin .or (.t 102) (.t 106), none⟩,
  ⟨some 108, .mv (.t 11), none⟩,
  ⟨some 109, .bin .and (.t 108) (.c (.i .u8 (.ofNat 63))), none⟩,
  ⟨some 110, .conv .i32 (.t 109), none⟩,
  ⟨some 111, .bin .shl (.t 110) (.c (.i .u64 (.ofNat 6))), none⟩,
  ⟨some 112, .bin .or (.t 107) (.t 111), none⟩,
  ⟨some 113, .mv (.t 12), none⟩,
  ⟨some 114, .bin .and (.t 113) (.c (.i .u8 (.ofNat 63))), none⟩,
  ⟨some 115, .conv .i32 (.t 114), none⟩,
  ⟨some 116, .bin .or (.t 112) (.t 115), none⟩,
  ⟨some 2, .mv (.t 116), none⟩,
  ⟨some 3, .mv (.c (.i .i64 (.ofNat 4))), none⟩])
 (.ret)))))))))))))))))), [.t 2, .t 3]⟩
def d238 : FDef := ⟨187, .seq (.reg [⟨some 4, .mv (.c (.i .i64 (.ofNat 0))), none⟩])
 (.block 0 (.seq (.reg [⟨some 161, .mv (.t 1), none⟩,
  ⟨some 162, .bin .leq (.c (.i .i32 (.ofNat 0))) (.t 161), none⟩,
  ⟨some 163, .mv (.t 162), none⟩,
  ⟨some 164, .mv (.t 1), (some (163, true))⟩,
  ⟨some 165, .bin .lss (.t 164) (.c (.i .i32 (.ofNat 128))), (some (163, true))⟩,
  ⟨some 166, .pick (.t 163) (.t 165) (.c (.b false)), none⟩,
  ⟨some 160, .mv (.t 166), none⟩])
 (.cond (.t 160) (.seq (.reg [⟨some 167, .mv (.t 0), none⟩,
  ⟨some 168, .mv (.t 1), none⟩,
  ⟨some 169, .conv .u8 (.t 168), none⟩,
  ⟨some 170, .call 241 [(.t 167), (.t 169)], none⟩,
  ⟨some 4, .mv (.t 170), none⟩])
 (.ret))
 (.seq (.reg [⟨some 172, .mv (.t 1), none⟩,
  ⟨some 173, .bin .eql (.t 172) (.c (.i .i32 (.ofNat 65533))), none⟩,
  ⟨some 171, .mv (.t 173), none⟩])
 (.cond (.t 171) (.seq (.seq (.bad)
 (.block 9 (.loop (.seq (.bad)
 (.seq (.cond (.t 177) (.skip)
 (.exit 9))
 (.block 10 (.seq (.reg [⟨some 178, .ext 1 (.t 176), none⟩,
  ⟨some 179, .ext 2 (.t 176), none⟩,
  ⟨some 5, .mv (.t 178), none⟩,
  ⟨some 6, .mv (.t 179), none⟩])
 (.seq (.reg [⟨some 180, .mv (.t 6), none⟩,
  ⟨some 181, .bin .eql (.t 180) (.c (.i .i32 (.ofNat 65533))), none⟩])
 (.cond (.t 181) (.seq (.reg [⟨some 182, .mv (.t 5), none⟩,
  ⟨some 4, .mv (.t 182), none⟩])
 (.ret))
 (.skip))))))))))
 (.seq (.reg [⟨some 4, .mv (.c (.i .i64 (.negSucc 0))), none⟩])
 (.ret)))
 (.seq (.reg [⟨some 184, .mv (.t 1), none⟩,
  ⟨some 185, .call 242 [(.t 184)], none⟩,
  ⟨some 186, .un .not (.t 185), none⟩,
  ⟨some 183, .mv (.t 186), none⟩])
 (.cond (.t 183) (.seq (.reg [⟨some 4, .mv (.c (.i .i64 (.negSucc 0))), none⟩])
 (.ret))
 (.bad)))))))), [.t 4]⟩
def d239 : FDef := ⟨58, .seq (.reg [⟨some 12, .mv (.t 2), none⟩,
  ⟨some 13, .mv (.t 1), none⟩,
  ⟨some 14, .bin .sub (.t 12) (.t 13), none⟩,
  ⟨some 10, .mv (.t 14), none⟩])
 (.seq (.reg [⟨some 15, .mv (.t 3), none⟩,
  ⟨some 16, .mv (.t 2), none⟩,
  ⟨some 17, .bin .sub (.t 15) (.t 16), none⟩,
  ⟨some 11, .mv (.t 17), none⟩])
 (.seq (.block 0 (.loop (.seq (.seq (.reg [⟨some 18, .mv (.t 10), none⟩,
  ⟨some 19, .mv (.t 11), none⟩,
  ⟨some 20, .bin .neq (.t 18) (.t 19), none⟩])
 (.cond (.t 20) (.skip)
 (.exit 0)))
 (.block 1 (.seq (.reg [⟨some 21, .mv (.t 10), none⟩,
  ⟨some 22, .mv (.t 11), none⟩,
  ⟨some 23, .bin .gtr (.t 21) (.t 22), none⟩])
 (.cond (.t 23) (.seq (.reg [⟨some 24, .mv (.t 0), none⟩,
  ⟨some 25, .mv (.t 2), none⟩,
  ⟨some 26, .mv (.t 10), none⟩,
  ⟨some 27, .bin .sub (.t 25) (.t 26), none⟩,
  ⟨some 28, .mv (.t 2), none⟩,
  ⟨some 29, .mv (.t 11), none⟩,
  ⟨some 30, .mv (.t 4), none⟩,
  ⟨some 31, .call 245 [(.t 24), (.t 27), (.t 28), (.t 29), (.t 30)], none⟩])
 (.reg [⟨some 32, .mv (.t 10), none⟩,
  ⟨some 33, .mv (.t 11), none⟩,
  ⟨some 34, .bin .sub (.t 32) (.t 33), none⟩,
  ⟨some 10, .mv (.t 34), none⟩]))
 (.seq (.reg [⟨some 35, .mv (.t 0), none⟩,
  ⟨some 36, .mv (.t 2), none⟩,
  ⟨some 37, .mv (.t 10), none⟩,
  ⟨some 38, .bin .sub (.t 36) (.t 37), none⟩,
  ⟨some 39, .mv (.t 2), none⟩,
  ⟨some 40, .mv (.t 11), none⟩,
  ⟨some 41, .bin .add (.t 39) (.t 40), none⟩,
  ⟨some 42, .mv (.t 10), none⟩,
  ⟨some 43, .bin .sub (.t 41) (.t 42), none⟩,
  ⟨some 44, .mv (.t 10), none⟩,
  ⟨some 45, .mv (.t 4), none⟩,
  ⟨some 46, .call 245 [(.t 35), (.t 38), (.t 43), (.t 44), (.t 45)], none⟩])
 (.reg [⟨some 47, .mv (.t 11), none⟩,
  ⟨some 48, .mv (.t 10), none⟩,
  ⟨some 49, .bin .sub (.t 47) (.t 48), none⟩,
  ⟨some 11, .mv (.t 49), none⟩]))))))))
 (.reg [⟨some 50, .mv (.t 0), none⟩,
  ⟨some 51, .mv (.t 2), none⟩,
  ⟨some 52, .mv (.t 10), none⟩,
  ⟨some 53, .bin .sub (.t 51) (.t 52), none⟩,
  ⟨some 54, .mv (.t 2), none⟩,
  ⟨some 55, .mv (.t 10), none⟩,
  ⟨some 56, .mv (.t 4), none⟩,
  ⟨some 57, .call 245 [(.t 50), (.t 53), (.t 54), (.t 55), (.t 56)], none⟩]))), []⟩
def d241 : FDef := ⟨8, .seq (.reg [⟨some 4, .mv (.c (.i .i64 (.ofNat 0))), none⟩])
 (.seq (.reg [⟨some 5, .mv (.t 0), none⟩,
  ⟨some 6, .mv (.t 1), none⟩,
  ⟨some 7, .call 246 [(.t 5), (.t 6)], none⟩,
  ⟨some 4, .mv (.t 7), none⟩])
 (.ret)), [.t 4]⟩
def d242 : FDef := ⟨17, .seq (.reg [⟨some 2, .mv (.c (.b false)), none⟩])
 (.seq (.block 0 (.seq (.reg [⟨some 4, .mv (.t 0), none⟩,
  ⟨some 5, .bin .leq (.c (.i .i32 (.ofNat 0))) (.t 4), none⟩,
  ⟨some 6, .mv (.t 5), none⟩,
  ⟨some 7, .mv (.t 0), (some (6, true))⟩,
  ⟨some 8, .bin .lss (.t 7) (.c (.i .i32 (.ofNat 55296))), (some (6, true))⟩,
  ⟨some 9, .pick (.t 6) (.t 8) (.c (.b false)), none⟩,
  ⟨some 3, .mv (.t 9), none⟩])
 (.cond (.t 3) (.seq (.reg [⟨some 2, .mv (.c (.b true)), none⟩])
 (.ret))
 (.seq (.reg [⟨some 11, .mv (.t 0), none⟩,
  ⟨some 12, .bin .lss (.c (.i .i32 (.ofNat 57343))) (.t 11), none⟩,
  ⟨some 13, .mv (.t 12), none⟩,
  ⟨some 14, .mv (.t 0), (some (13, true))⟩,
  ⟨some 15, .bin .leq (.t 14) (.c (.i .i32 (.ofNat 1114111))), (some (13, true))⟩,
  ⟨some 16, .pick (.t 13) (.t 15) (.c (.b false)), none⟩,
  ⟨some 10, .mv (.t 16), none⟩])
 (.cond (.t 10) (.seq (.reg [⟨some 2, .mv (.c (.b true)), none⟩])
 (.ret))
 (.skip))))))
 (.seq (.reg [⟨some 2, .mv (.c (.b false)), none⟩])
 (.ret))), [.t 2]⟩
def d243 : FDef := ⟨6, .seq (.reg [⟨some 2, .mv (.c (.i .i64 (.ofNat 0))), none⟩])
 (.seq (.reg [⟨some 3, .mv (.t 0), none⟩,
  ⟨some 4, .bin .add (.t 3) (.c (.i .i64 (.ofNat 16))), none⟩,
  ⟨some 5, .bin .quo (.t 4) (.c (.i .i64 (.ofNat 8))), none⟩,
  ⟨some 2, .mv (.t 5), none⟩])
 (.ret)), [.t 2]⟩
def d245 : FDef := ⟨38, .seq (.reg [⟨some 10, .mv (.c (.i .i64 (.ofNat 0))), none⟩])
 (.block 0 (.loop (.seq (.seq (.reg [⟨some 11, .mv (.t 10), none⟩,
  ⟨some 12, .mv (.t 3), none⟩,
  ⟨some 13, .bin .lss (.t 11) (.t 12), none⟩])
 (.cond (.t 13) (.skip)
 (.exit 0)))
 (.seq (.block 1 (.dreg 0 [⟨⟨some 16, .mv (.t 0), none⟩, 0, [], [], 0⟩,
  ⟨⟨some 17, .mv (.t 1), none⟩, 0, [], [], 0⟩,
  ⟨⟨some 18, .mv (.t 10), none⟩, 0, [], [], 0⟩,
  ⟨⟨some 19, .bin .add (.t 17) (.t 18), none⟩, 0, [1, 2], [], 0⟩,
  ⟨⟨some 20, .mv (.t 0), none⟩, 0, [], [], 0⟩,
  ⟨⟨some 21, .mv (.t 2), none⟩, 0, [], [], 0⟩,
  ⟨⟨some 22, .mv (.t 10), none⟩, 0, [], [], 0⟩,
  ⟨⟨some 23, .bin .add (.t 21) (.t 22), none⟩, 0, [5, 6], [], 0⟩,
  ⟨⟨some 24, .mv (.t 0), none⟩, 0, [], [], 0⟩,
  ⟨⟨some 25, .mv (.t 2), none⟩, 0, [], [], 0⟩,
  ⟨⟨some 26, .mv (.t 10), none⟩, 0, [], [], 0⟩,
  ⟨⟨some 27, .bin .add (.t 25) (.t 26), none⟩, 0, [9, 10], [], 0⟩,
  ⟨⟨some 28, .iadS 36 (.t 24) (.t 27), none⟩, 0, [8, 9, 10, 11], [], 0⟩,
  ⟨⟨some 29, .ld true 36 (.t 28), none⟩, 1, [8, 9, 10, 11, 12], [], 0⟩,
  ⟨⟨some 30, .mv (.t 0), none⟩, 0, [], [], 0⟩,
  ⟨⟨some 31, .mv (.t 1), none⟩, 0, [], [], 0⟩,
  ⟨⟨some 32, .mv (.t 10), none⟩, 0, [], [], 0⟩,
  ⟨⟨some 33, .bin .add (.t 31) (.t 32), none⟩, 0, [15, 16], [], 0⟩,
  ⟨⟨some 34, .iadS 36 (.t 30) (.t 33), none⟩, 0, [14, 15, 16, 17], [], 0⟩,
  ⟨⟨some 35, .ld true 36 (.t 34), none⟩, 1, [14, 15, 16, 17, 18], [], 0⟩,
  ⟨⟨some 36, .iadS 36 (.t 16) (.t 19), none⟩, 0, [0, 1, 2, 3, 8, 9, 10, 11, 12, 13, 14, 15, 16, 17, 18, 19], [], 0⟩,
  ⟨⟨none, .st 36 (.t 36) (.t 29), none⟩, 2, [0, 1, 2, 3, 8, 9, 10, 11, 12, 13, 14, 15, 16, 17, 18, 19, 20], [], 0⟩,
  ⟨⟨some 37, .iadS 36 (.t 20) (.t 23), none⟩, 0, [0, 1, 2, 3, 4, 5, 6, 7, 8, 9, 10, 11, 12, 13, 14, 15, 16, 17, 18, 19, 20, 21], [], 0⟩,
  ⟨⟨none, .st 36 (.t 37) (.t 35), none⟩, 2, [0, 1, 2, 3, 4, 5, 6, 7, 8, 9, 10, 11, 12, 13, 14, 15, 16, 17, 18, 19, 20, 21, 22], [], 0⟩]))
 (.reg [⟨some 14, .mv (.t 10), none⟩,
  ⟨some 15, .bin .add (.t 14) (.c (.i .i64 (.ofNat 1))), none⟩,
  ⟨some 10, .mv (.t 15), none⟩]))))), []⟩
def d246 : FDef := ⟨8, .seq (.reg [⟨some 4, .mv (.c (.i .i64 (.ofNat 0))), none⟩])
 (.seq (.reg [⟨some 5, .mv (.t 0), none⟩,
  ⟨some 6, .mv (.t 1), none⟩,
  ⟨some 7, .call 247 [(.t 5), (.t 6)], none⟩,
  ⟨some 4, .mv (.t 7), none⟩])
 (.ret)), [.t 4]⟩
def d264 : FDef := ⟨26, .seq (.reg [⟨some 2, .box 163 0 (.t 0), none⟩,
  ⟨some 3, .box 82 16 (.t 1), none⟩,
  ⟨some 4, .mv (.c (.i .i64 (.ofNat 0))), none⟩])
 (.seq (.seq (.reg [⟨some 8, .fad 0 (.t 3), none⟩,
  ⟨some 9, .ld true 4 (.t 8), none⟩,
  ⟨some 10, .fad 4 (.t 3), none⟩,
  ⟨some 11, .ld true 4 (.t 10), none⟩,
  ⟨some 12, .fad 8 (.t 3), none⟩,
  ⟨some 13, .ld true 4 (.t 12), none⟩,
  ⟨some 14, .fad 12 (.t 3), none⟩,
  ⟨some 15, .ld true 4 (.t 14), none⟩,
  ⟨some 16, .build [.b false, .s [], .b false, .s [], .b false, .s [], .b false, .s [], .b false, .s [], .b false, .s [], .b false, .s [], .b false, .s []] [(0, 4, (.t 9)), (4, 4, (.t 11)), (8, 4, (.t 13)), (12, 4, (.t 15))], none⟩,
  ⟨some 17, .mv (.c (.i .i64 (.ofNat 0))), none⟩])
 (.block 0 (.loop (.seq (.reg [⟨some 18, .bin .lss (.t 17) (.c (.i .i64 (.ofNat 4))), none⟩])
 (.seq (.cond (.t 18) (.skip)
 (.exit 0))
 (.seq (.block 1 (.seq (.reg [⟨some 19, .idxA 4 4 true (.t 16) (.t 17), none⟩,
  ⟨some 6, .new 76 4 [.b false, .s [], .b false, .s []], none⟩,
  ⟨none, .st 4 (.t 6) (.t 19), none⟩])
 (.seq (.reg [⟨some 20, .ld true 4 (.t 6), none⟩,
  ⟨some 21, .call 201 [(.t 20)], none⟩,
  ⟨some 7, .mv (.t 21), none⟩])
 (.seq (.reg [⟨some 22, .mv (.t 7), none⟩,
  ⟨some 23, .bin .neq (.t 22) (.c (.i .i64 (.ofNat 0))), none⟩])
 (.cond (.t 23) (.seq (.reg [⟨some 24, .mv (.t 7), none⟩,
  ⟨some 4, .mv (.t 24), none⟩])
 (.ret))
 (.skip))))))
 (.reg [⟨some 25, .bin .add (.t 17) (.c (.i .i64 (.ofNat 1))), none⟩,
  ⟨some 17, .mv (.t 25), none⟩])))))))
 (.seq (.reg [⟨some 4, .mv (.c (.i .i64 (.ofNat 0))), none⟩])
 (.ret))), [.t 4]⟩
def d265 : FDef := ⟨10, .seq (.reg [⟨some 3, .box 163 0 (.t 0), none⟩,
  ⟨some 4, .box 82 16 (.t 1), none⟩,
  ⟨some 5, .box 82 16 (.t 2), none⟩,
  ⟨some 6, .mv (.c (.b false)), none⟩])
 (.seq (.reg [⟨some 7, .ld true 16 (.t 4), none⟩,
  ⟨some 8, .ld true 16 (.t 5), none⟩,
  ⟨some 9, .eqC false [.b, .s, .b, .s, .b, .s, .b, .s, .b, .s, .b, .s, .b, .s, .b, .s] (.t 7) (.t 8), none⟩,
  ⟨some 6, .mv (.t 9), none⟩])
 (.ret)), [.t 6]⟩
def d266 : FDef := ⟨29, .seq (.reg [⟨some 3, .box 163 0 (.t 0), none⟩,
  ⟨some 4, .box 82 16 (.t 1), none⟩,
  ⟨some 5, .box 78 9 (.t 2), none⟩,
  ⟨some 6, .new 82 16 [.b false, .s [], .b false, .s [], .b false, .s [], .b false, .s [], .b false, .s [], .b false, .s [], .b false, .s [], .b false, .s []], none⟩])
 (.seq (.reg [⟨some 10, .ld true 16 (.t 4), none⟩,
  ⟨some 11, .call 268 [(.t 10)], none⟩,
  ⟨some 9, .mv (.t 11), none⟩,
  ⟨some 12, .ext 0 (.t 9), none⟩,
  ⟨some 13, .ext 1 (.t 9), none⟩,
  ⟨some 7, .new 222 12 [.b false, .s [], .b false, .s [], .b false, .s [], .b false, .s [], .b false, .s [], .b false, .s []], none⟩,
  ⟨some 8, .new 222 12 [.b false, .s [], .b false, .s [], .b false, .s [], .b false, .s [], .b false, .s [], .b false, .s []], none⟩,
  ⟨none, .st 12 (.t 7) (.t 12), none⟩,
  ⟨none, .st 12 (.t 8) (.t 13), none⟩])
 (.seq (.dreg 0 [⟨⟨some 14, .ld true 12 (.t 7), none⟩, 1, [], [], 0⟩,
  ⟨⟨some 15, .ld true 9 (.t 5), none⟩, 1, [], [], 0⟩,
  ⟨⟨some 16, .call 269 [(.t 14), (.t 15)], none⟩, 2, [0, 1], [], 0⟩,
  ⟨⟨some 17, .ld true 12 (.t 8), none⟩, 1, [], [], 0⟩,
  ⟨⟨some 18, .ld true 9 (.t 5), none⟩, 1, [], [], 0⟩,
  ⟨⟨some 19, .call 269 [(.t 17), (.t 18)], none⟩, 2, [0, 1, 2, 3, 4], [], 0⟩,
  ⟨⟨none, .st 12 (.t 7) (.t 16), none⟩, 2, [0, 1, 2, 3, 4, 5], [], 0⟩,
  ⟨⟨none, .st 12 (.t 8) (.t 19), none⟩, 2, [0, 1, 2, 3, 4, 5, 6], [], 0⟩])
 (.seq (.reg [⟨some 20, .fad 0 (.t 7), none⟩,
  ⟨some 21, .ld true 4 (.t 20), none⟩,
  ⟨some 22, .fad 4 (.t 7), none⟩,
  ⟨some 23, .ld true 4 (.t 22), none⟩,
  ⟨some 24, .fad 0 (.t 8), none⟩,
  ⟨some 25, .ld true 4 (.t 24), none⟩,
  ⟨some 26, .fad 4 (.t 8), none⟩,
  ⟨some 27, .ld true 4 (.t 26), none⟩,
  ⟨some 28, .build [.b false, .s [], .b false, .s [], .b false, .s [], .b false, .s [], .b false, .s [], .b false, .s [], .b false, .s [], .b false, .s []] [(0, 4, (.t 21)), (4, 4, (.t 23)), (8, 4, (.t 25)), (12, 4, (.t 27))], none⟩,
  ⟨none, .st 16 (.t 6) (.t 28), none⟩])
 (.ret)))), [.cell true 16 6]⟩
def d267 : FDef := ⟨33, .seq (.reg [⟨some 4, .box 163 0 (.t 0), none⟩,
  ⟨some 5, .box 82 16 (.t 1), none⟩,
  ⟨some 6, .box 82 16 (.t 2), none⟩,
  ⟨some 7, .box 78 9 (.t 3), none⟩,
  ⟨some 8, .mv (.c (.b false)), none⟩])
 (.seq (.reg [⟨some 14, .ld true 16 (.t 5), none⟩,
  ⟨some 15, .call 268 [(.t 14)], none⟩,
  ⟨some 13, .mv (.t 15), none⟩,
  ⟨some 16, .ext 0 (.t 13), none⟩,
  ⟨some 17, .ext 1 (.t 13), none⟩,
  ⟨some 9, .new 222 12 [.b false, .s [], .b false, .s [], .b false, .s [], .b false, .s [], .b false, .s [], .b false, .s []], none⟩,
  ⟨some 10, .new 222 12 [.b false, .s [], .b false, .s [], .b false, .s [], .b false, .s [], .b false, .s [], .b false, .s []], none⟩,
  ⟨none, .st 12 (.t 9) (.t 16), none⟩,
  ⟨none, .st 12 (.t 10) (.t 17), none⟩])
 (.seq (.reg [⟨some 19, .ld true 16 (.t 6), none⟩,
  ⟨some 20, .call 268 [(.t 19)], none⟩,
  ⟨some 18, .mv (.t 20), none⟩,
  ⟨some 21, .ext 0 (.t 18), none⟩,
  ⟨some 22, .ext 1 (.t 18), none⟩,
  ⟨some 11, .new 222 12 [.b false, .s [], .b false, .s [], .b false, .s [], .b false, .s [], .b false, .s [], .b false, .s []], none⟩,
  ⟨some 12, .new 222 12 [.b false, .s [], .b false, .s [], .b false, .s [], .b false, .s [], .b false, .s [], .b false, .s []], none⟩,
  ⟨none, .st 12 (.t 11) (.t 21), none⟩,
  ⟨none, .st 12 (.t 12) (.t 22), none⟩])
 (.seq (.reg [⟨some 23, .ld true 12 (.t 9), none⟩,
  ⟨some 24, .ld true 12 (.t 11), none⟩,
  ⟨some 25, .ld true 9 (.t 7), none⟩,
  ⟨some 26, .call 270 [(.t 23), (.t 24), (.t 25)], none⟩,
  ⟨some 27, .mv (.t 26), none⟩,
  ⟨some 28, .ld true 12 (.t 10), (some (27, true))⟩,
  ⟨some 29, .ld true 12 (.t 12), (some (27, true))⟩,
  ⟨some 30, .ld true 9 (.t 7), (some (27, true))⟩,
  ⟨some 31, .call 270 [(.t 28), (.t 29), (.t 30)], (some (27, true))⟩,
  ⟨some 32, .pick (.t 27) (.t 31) (.c (.b false)), none⟩,
  ⟨some 8, .mv (.t 32), none⟩])
 (.ret)))), [.t 8]⟩
def d268 : FDef := ⟨14, .seq (.reg [⟨some 1, .box 82 16 (.t 0), none⟩,
  ⟨some 2, .new 222 12 [.b false, .s [], .b false, .s [], .b false, .s [], .b false, .s [], .b false, .s [], .b false, .s []], none⟩,
  ⟨some 3, .new 222 12 [.b false, .s [], .b false, .s [], .b false, .s [], .b false, .s [], .b false, .s [], .b false, .s []], none⟩])
 (.seq (.dreg 0 [⟨⟨some 4, .fad 0 (.t 1), none⟩, 0, [], [], 0⟩,
  ⟨⟨some 5, .ld true 4 (.t 4), none⟩, 1, [0], [], 0⟩,
  ⟨⟨some 6, .fad 4 (.t 1), none⟩, 0, [], [], 0⟩,
  ⟨⟨some 7, .ld true 4 (.t 6), none⟩, 1, [2], [], 0⟩,
  ⟨⟨some 8, .call 183 [(.t 5), (.t 7)], none⟩, 2, [0, 1, 2, 3], [], 0⟩,
  ⟨⟨some 9, .fad 8 (.t 1), none⟩, 0, [], [], 0⟩,
  ⟨⟨some 10, .ld true 4 (.t 9), none⟩, 1, [5], [], 0⟩,
  ⟨⟨some 11, .fad 12 (.t 1), none⟩, 0, [], [], 0⟩,
  ⟨⟨some 12, .ld true 4 (.t 11), none⟩, 1, [7], [], 0⟩,
  ⟨⟨some 13, .call 183 [(.t 10), (.t 12)], none⟩, 2, [0, 1, 2, 3, 4, 5, 6, 7, 8], [], 0⟩,
  ⟨⟨none, .st 12 (.t 2) (.t 8), none⟩, 2, [0, 1, 2, 3, 4, 5, 6, 7, 8, 9], [], 0⟩,
  ⟨⟨none, .st 12 (.t 3) (.t 13), none⟩, 2, [0, 1, 2, 3, 4, 5, 6, 7, 8, 9, 10], [], 0⟩])
 (.ret)), [.cell true 12 2, .cell true 12 3]⟩
def d269 : FDef := ⟨38, .seq (.reg [⟨some 2, .box 222 12 (.t 0), none⟩,
  ⟨some 3, .box 78 9 (.t 1), none⟩,
  ⟨some 4, .new 222 12 [.b false, .s [], .b false, .s [], .b false, .s [], .b false, .s [], .b false, .s [], .b false, .s []], none⟩])
 (.seq (.seq (.reg [⟨some 9, .ld true 9 (.t 3), none⟩,
  ⟨some 10, .call 271 [(.t 9)], none⟩,
  ⟨some 8, .mv (.t 10), none⟩,
  ⟨some 11, .ext 0 (.t 8), none⟩,
  ⟨some 12, .ext 1 (.t 8), none⟩,
  ⟨some 5, .new 76 4 [.b false, .s [], .b false, .s []], none⟩,
  ⟨none, .st 4 (.t 5) (.t 11), none⟩,
  ⟨some 6, .mv (.t 12), none⟩])
 (.seq (.reg [⟨some 13, .mv (.t 6), none⟩])
 (.cond (.t 13) (.seq (.reg [⟨some 14, .ld true 12 (.t 2), none⟩,
  ⟨some 15, .ld true 4 (.t 5), none⟩,
  ⟨some 16, .call 180 [(.t 14), (.t 15)], none⟩,
  ⟨some 17, .call 272 [(.t 16)], none⟩,
  ⟨none, .st 12 (.t 4) (.t 17), none⟩])
 (.ret))
 (.skip))))
 (.seq (.dreg 1 [⟨⟨some 18, .fad 4 (.t 3), none⟩, 0, [], [0], 0⟩,
  ⟨⟨some 19, .ld true 4 (.t 18), none⟩, 1, [0], [0], 0⟩,
  ⟨⟨some 20, .fad 0 (.t 3), none⟩, 0, [], [0], 0⟩,
  ⟨⟨some 21, .ld true 4 (.t 20), none⟩, 1, [2], [0], 0⟩,
  ⟨⟨some 22, .fad 0 (.t 3), none⟩, 0, [], [0], 0⟩,
  ⟨⟨some 23, .ld true 4 (.t 22), none⟩, 1, [4], [0], 0⟩,
  ⟨⟨some 24, .call 44 [(.t 21), (.t 23)], none⟩, 2, [2, 3, 4, 5], [0], 0⟩,
  ⟨⟨some 25, .call 137 [(.t 19), (.t 24)], none⟩, 2, [0, 1, 2, 3, 4, 5, 6], [0], 0⟩,
  ⟨⟨some 7, .new 76 4 [.b false, .s [], .b false, .s []], none⟩, 3, [], [0], 0⟩,
  ⟨⟨none, .st 4 (.t 7) (.t 25), none⟩, 2, [0, 1, 2, 3, 4, 5, 6, 7, 8], [], 0⟩])
 (.seq (.dreg 0 [⟨⟨some 26, .fad 0 (.t 2), none⟩, 0, [], [], 0⟩,
  ⟨⟨some 27, .ld true 4 (.t 26), none⟩, 1, [0], [], 0⟩,
  ⟨⟨some 28, .fad 8 (.t 2), none⟩, 0, [], [], 0⟩,
  ⟨⟨some 29, .ld true 4 (.t 28), none⟩, 1, [2], [], 0⟩,
  ⟨⟨some 30, .ld true 4 (.t 7), none⟩, 1, [], [], 0⟩,
  ⟨⟨some 31, .call 44 [(.t 29), (.t 30)], none⟩, 2, [2, 3, 4], [], 0⟩,
  ⟨⟨some 32, .call 42 [(.t 27), (.t 31)], none⟩, 2, [0, 1, 2, 3, 4, 5], [], 0⟩,
  ⟨⟨some 33, .ld true 12 (.t 2), none⟩, 1, [], [], 0⟩,
  ⟨⟨some 34, .fad 0 (.t 3), none⟩, 0, [], [], 0⟩,
  ⟨⟨some 35, .ld true 4 (.t 34), none⟩, 1, [8], [], 0⟩,
  ⟨⟨some 36, .call 181 [(.t 33), (.t 35)], none⟩, 2, [0, 1, 2, 3, 4, 5, 6, 7, 8, 9], [], 0⟩,
  ⟨⟨some 37, .call 183 [(.t 32), (.t 36)], none⟩, 2, [0, 1, 2, 3, 4, 5, 6, 7, 8, 9, 10], [], 0⟩,
  ⟨⟨none, .st 12 (.t 4) (.t 37), none⟩, 2, [0, 1, 2, 3, 4, 5, 6, 7, 8, 9, 10, 11], [], 0⟩])
 (.ret)))), [.cell true 12 4]⟩
def d270 : FDef := ⟨14, .seq (.reg [⟨some 3, .box 222 12 (.t 0), none⟩,
  ⟨some 4, .box 222 12 (.t 1), none⟩,
  ⟨some 5, .box 78 9 (.t 2), none⟩,
  ⟨some 6, .mv (.c (.b false)), none⟩])
 (.seq (.dreg 0 [⟨⟨some 7, .ld true 12 (.t 3), none⟩, 1, [], [], 0⟩,
  ⟨⟨some 8, .ld true 12 (.t 4), none⟩, 1, [], [], 0⟩,
  ⟨⟨some 9, .call 273 [(.t 7), (.t 8)], none⟩, 2, [0, 1], [], 0⟩,
  ⟨⟨some 10, .ld true 9 (.t 5), none⟩, 1, [], [], 0⟩,
  ⟨⟨some 11, .call 269 [(.t 9), (.t 10)], none⟩, 2, [0, 1, 2, 3], [], 0⟩,
  ⟨⟨some 12, .build [.b false, .s [], .b false, .s [], .b false, .s [], .b false, .s [], .b false, .s [], .b false, .s []] [], none⟩, 0, [], [], 0⟩,
  ⟨⟨some 13, .eqC false [.b, .s, .b, .s, .b, .s, .b, .s, .b, .s, .b, .s] (.t 11) (.t 12), none⟩, 0, [0, 1, 2, 3, 4, 5], [], 0⟩,
  ⟨⟨some 6, .mv (.t 13), none⟩, 0, [0, 1, 2, 3, 4, 5, 6], [], 0⟩])
 (.ret)), [.t 6]⟩
def d271 : FDef := ⟨11, .seq (.reg [⟨some 1, .box 78 9 (.t 0), none⟩,
  ⟨some 2, .new 76 4 [.b false, .s [], .b false, .s []], none⟩,
  ⟨some 3, .mv (.c (.b false)), none⟩])
 (.seq (.seq (.reg [⟨some 4, .fad 4 (.t 1), none⟩,
  ⟨some 5, .ld true 4 (.t 4), none⟩,
  ⟨some 6, .build [.b false, .s [], .b false, .s []] [], none⟩,
  ⟨some 7, .eqC true [.b, .s, .b, .s] (.t 5) (.t 6), none⟩])
 (.cond (.t 7) (.seq (.reg [⟨some 8, .build [.b false, .s [], .b false, .s []] [], none⟩,
  ⟨none, .st 4 (.t 2) (.t 8), none⟩,
  ⟨some 3, .mv (.c (.b false)), none⟩])
 (.ret))
 (.skip)))
 (.seq (.reg [⟨some 9, .fad 0 (.t 1), none⟩,
  ⟨some 10, .ld true 4 (.t 9), none⟩,
  ⟨none, .st 4 (.t 2) (.t 10), none⟩,
  ⟨some 3, .mv (.c (.b true)), none⟩])
 (.ret))), [.cell true 4 2, .t 3]⟩
def d272 : FDef := ⟨5, .seq (.reg [⟨some 1, .box 76 4 (.t 0), none⟩,
  ⟨some 2, .new 222 12 [.b false, .s [], .b false, .s [], .b false, .s [], .b false, .s [], .b false, .s [], .b false, .s []], none⟩])
 (.seq (.reg [⟨some 3, .ld true 4 (.t 1), none⟩,
  ⟨some 4, .build [.b false, .s [], .b false, .s [], .b false, .s [], .b false, .s [], .b false, .s [], .b false, .s []] [(0, 4, (.t 3))], none⟩,
  ⟨none, .st 12 (.t 2) (.t 4), none⟩])
 (.ret)), [.cell true 12 2]⟩
def d273 : FDef := ⟨21, .seq (.reg [⟨some 2, .box 222 12 (.t 0), none⟩,
  ⟨some 3, .box 222 12 (.t 1), none⟩,
  ⟨some 4, .new 222 12 [.b false, .s [], .b false, .s [], .b false, .s [], .b false, .s [], .b false, .s [], .b false, .s []], none⟩])
 (.seq (.dreg 0 [⟨⟨some 5, .fad 0 (.t 2), none⟩, 0, [], [], 0⟩,
  ⟨⟨some 6, .ld true 4 (.t 5), none⟩, 1, [0], [], 0⟩,
  ⟨⟨some 7, .fad 0 (.t 3), none⟩, 0, [], [], 0⟩,
  ⟨⟨some 8, .ld true 4 (.t 7), none⟩, 1, [2], [], 0⟩,
  ⟨⟨some 9, .call 137 [(.t 6), (.t 8)], none⟩, 2, [0, 1, 2, 3], [], 0⟩,
  ⟨⟨some 10, .fad 4 (.t 2), none⟩, 0, [], [], 0⟩,
  ⟨⟨some 11, .ld true 4 (.t 10), none⟩, 1, [5], [], 0⟩,
  ⟨⟨some 12, .fad 4 (.t 3), none⟩, 0, [], [], 0⟩,
  ⟨⟨some 13, .ld true 4 (.t 12), none⟩, 1, [7], [], 0⟩,
  ⟨⟨some 14, .call 137 [(.t 11), (.t 13)], none⟩, 2, [0, 1, 2, 3, 4, 5, 6, 7, 8], [], 0⟩,
  ⟨⟨some 15, .fad 8 (.t 2), none⟩, 0, [], [], 0⟩,
  ⟨⟨some 16, .ld true 4 (.t 15), none⟩, 1, [10], [], 0⟩,
  ⟨⟨some 17, .fad 8 (.t 3), none⟩, 0, [], [], 0⟩,
  ⟨⟨some 18, .ld true 4 (.t 17), none⟩, 1, [12], [], 0⟩,
  ⟨⟨some 19, .call 137 [(.t 16), (.t 18)], none⟩, 2, [0, 1, 2, 3, 4, 5, 6, 7, 8, 9, 10, 11, 12, 13], [], 0⟩,
  ⟨⟨some 20, .build [.b false, .s [], .b false, .s [], .b false, .s [], .b false, .s [], .b false, .s [], .b false, .s []] [(0, 4, (.t 9)), (4, 4, (.t 14)), (8, 4, (.t 19))], none⟩, 0, [0, 1, 2, 3, 4, 5, 6, 7, 8, 9, 10, 11, 12, 13, 14], [], 0⟩,
  ⟨⟨none, .st 12 (.t 4) (.t 20), none⟩, 2, [0, 1, 2, 3, 4, 5, 6, 7, 8, 9, 10, 11, 12, 13, 14, 15], [], 0⟩])
 (.ret)), [.cell true 12 4]⟩
def d279 : FDef := ⟨6, .bad, []⟩
def tr3 : Tr := .n 223 d223 (.n 206 d206 (.n 198 d198 (.n 194 d194 (.n 192 d192 (.n 191 d191 (.n 190 d190 (.l) (.l)) (.l)) (.n 193 d193 (.l) (.l))) (.n 196 d196 (.n 195 d195 (.l) (.l)) (.n 197 d197 (.l) (.l)))) (.n 202 d202 (.n 200 d200 (.n 199 d199 (.l) (.l)) (.n 201 d201 (.l) (.l))) (.n 204 d204 (.n 203 d203 (.l) (.l)) (.n 205 d205 (.l) (.l))))) (.n 214 d214 (.n 210 d210 (.n 208 d208 (.n 207 d207 (.l) (.l)) (.n 209 d209 (.l) (.l))) (.n 212 d212 (.n 211 d211 (.l) (.l)) (.n 213 d213 (.l) (.l)))) (.n 218 d218 (.n 216 d216 (.n 215 d215 (.l) (.l)) (.n 217 d217 (.l) (.l))) (.n 220 d220 (.n 219 d219 (.l) (.l)) (.n 222 d222 (.l) (.l)))))) (.n 241 d241 (.n 232 d232 (.n 228 d228 (.n 226 d226 (.n 225 d225 (.n 224 d224 (.l) (.l)) (.l)) (.n 227 d227 (.l) (.l))) (.n 230 d230 (.n 229 d229 (.l) (.l)) (.n 231 d231 (.l) (.l)))) (.n 236 d236 (.n 234 d234 (.n 233 d233 (.l) (.l)) (.n 235 d235 (.l) (.l))) (.n 238 d238 (.n 237 d237 (.l) (.l)) (.n 239 d239 (.l) (.l))))) (.n 267 d267 (.n 246 d246 (.n 243 d243 (.n 242 d242 (.l) (.l)) (.n 245 d245 (.l) (.l))) (.n 265 d265 (.n 264 d264 (.l) (.l)) (.n 266 d266 (.l) (.l)))) (.n 271 d271 (.n 269 d269 (.n 268 d268 (.l) (.l)) (.n 270 d270 (.l) (.l))) (.n 273 d273 (.n 272 d272 (.l) (.l)) (.n 279 d279 (.l) (.l))))))
theorem chk3 : chkTr Go.Proofs.Tryz.prog tr3 = true := by kernel_rfl
end Go.Em
