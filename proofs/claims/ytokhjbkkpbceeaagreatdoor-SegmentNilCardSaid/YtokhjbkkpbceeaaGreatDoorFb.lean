/- The functions of the program as instructions of the abstract machine, part 1. -/
import Derived.Test.YtokhjbkkpbceeaaGreatDoorEv
import Derived.Test.YtokhjbkkpbceeaaGreatDoorProg
namespace Go.Em
open Go
def d57 : FDef := ⟨124, .seq (.reg [⟨some 2, .new 63 6 [.i .i64 (.ofNat 0), .i .i64 (.ofNat 0), .i .i64 (.ofNat 0), .i .i64 (.ofNat 0), .i .i64 (.ofNat 0), .i .i64 (.ofNat 0)], none⟩,
  ⟨some 3, .mv (.c (.i .i64 (.ofNat 0))), none⟩])
 (.seq (.seq (.reg [⟨some 20, .mv (.t 0), none⟩,
  ⟨some 21, .lenS (.t 20), none⟩,
  ⟨some 22, .bin .eql (.t 21) (.c (.i .i64 (.ofNat 0))), none⟩])
 (.cond (.t 22) (.seq (.reg [⟨some 23, .build [.i .i64 (.ofNat 0), .i .i64 (.ofNat 0), .i .i64 (.ofNat 0), .i .i64 (.ofNat 0), .i .i64 (.ofNat 0), .i .i64 (.ofNat 0)] [], none⟩,
  ⟨none, .st 6 (.t 2) (.t 23), none⟩,
  ⟨some 3, .mv (.c (.i .i64 (.ofNat 10))), none⟩])
 (.ret))
 (.skip)))
 (.seq (.reg [⟨some 4, .new 167 1 [.sl none 0 0 true, .sl none 0 0 true, .sl none 0 0 true], none⟩])
 (.seq (.seq (.reg [⟨some 24, .mv (.t 0), none⟩,
  ⟨some 25, .lenS (.t 24), none⟩,
  ⟨some 26, .mv (.c (.i .i64 (.ofNat 0))), none⟩])
 (.block 0 (.loop (.seq (.reg [⟨some 27, .bin .lss (.t 26) (.t 25), none⟩])
 (.seq (.cond (.t 27) (.skip)
 (.exit 0))
 (.seq (.block 1 (.seq (.reg [⟨some 28, .iadS 36 (.t 24) (.t 26), none⟩,
  ⟨some 29, .ld true 36 (.t 28), none⟩,
  ⟨some 6, .new 84 36 [.b false, .s [], .b false, .s [], .b false, .s [], .b false, .s [], .b false, .b false, .s [], .b false, .s [], .b false, .s [], .b false, .s [], .b false, .b false, .b false, .b false, .s [], .b false, .s [], .b false, .s [], .b false, .s [], .b false, .s [], .b false, .s [], .b false, .s [], .b false, .s []], none⟩,
  ⟨none, .st 36 (.t 6) (.t 29), none⟩])
 (.seq (.reg [⟨some 30, .fad 0 (.t 6), none⟩,
  ⟨some 31, .fad 0 (.t 30), none⟩,
  ⟨some 32, .ld true 9 (.t 31), none⟩,
  ⟨some 33, .fad 0 (.t 6), none⟩,
  ⟨some 34, .fad 9 (.t 33), none⟩,
  ⟨some 35, .ld true 9 (.t 34), none⟩,
  ⟨some 36, .buildS 78 9 2 [.b false, .s [], .b false, .s [], .b false, .s [], .b false, .s [], .b false] [(0, 9, (.t 32)), (9, 9, (.t 35))], none⟩,
  ⟨some 37, .lenS (.t 36), none⟩,
  ⟨some 38, .mv (.c (.i .i64 (.ofNat 0))), none⟩])
 (.block 2 (.loop (.seq (.reg [⟨some 39, .bin .lss (.t 38) (.t 37), none⟩])
 (.seq (.cond (.t 39) (.skip)
 (.exit 2))
 (.seq (.block 3 (.seq (.reg [⟨some 40, .iadS 9 (.t 36) (.t 38), none⟩,
  ⟨some 41, .ld true 9 (.t 40), none⟩,
  ⟨some 8, .new 78 9 [.b false, .s [], .b false, .s [], .b false, .s [], .b false, .s [], .b false], none⟩,
  ⟨none, .st 9 (.t 8) (.t 41), none⟩])
 (.seq (.reg [⟨some 42, .fad 20 (.t 6), none⟩,
  ⟨some 43, .ld true 16 (.t 42), none⟩,
  ⟨some 44, .ld true 9 (.t 8), none⟩,
  ⟨some 45, .call 95 [(.t 43), (.t 44)], none⟩,
  ⟨some 9, .new 169 18 [.b false, .s [], .b false, .s [], .b false, .s [], .b false, .s [], .b false, .b false, .s [], .b false, .s [], .b false, .s [], .b false, .s [], .b false], none⟩,
  ⟨none, .st 18 (.t 9) (.t 45), none⟩])
 (.dreg 3 [⟨⟨some 46, .iadA 3 1 (.t 4) (.c (.i .i64 (.ofNat 0))), none⟩, 0, [], [0, 1, 2], 0⟩,
  ⟨⟨some 47, .ld false 1 (.t 46), none⟩, 1, [0], [0, 1, 2], 0⟩,
  ⟨⟨some 48, .fad 0 (.t 9), none⟩, 0, [], [0, 1, 2], 0⟩,
  ⟨⟨some 49, .ld true 9 (.t 48), none⟩, 1, [2], [0, 1, 2], 0⟩,
  ⟨⟨some 50, .buildS 78 9 1 [.b false, .s [], .b false, .s [], .b false, .s [], .b false, .s [], .b false] [(0, 9, (.t 49))], none⟩, 3, [2, 3], [0, 1, 2], 0⟩,
  ⟨⟨some 51, .app 78 9 104 (.t 47) (.t 50), none⟩, 2, [0, 1, 2, 3, 4], [1, 2], 0⟩,
  ⟨⟨some 52, .iadA 3 1 (.t 4) (.c (.i .i64 (.ofNat 1))), none⟩, 0, [], [0, 1, 2], 0⟩,
  ⟨⟨some 53, .ld false 1 (.t 52), none⟩, 1, [6], [0, 1, 2], 0⟩,
  ⟨⟨some 54, .fad 9 (.t 9), none⟩, 0, [], [0, 1, 2], 0⟩,
  ⟨⟨some 55, .ld true 9 (.t 54), none⟩, 1, [8], [0, 1, 2], 0⟩,
  ⟨⟨some 56, .buildS 78 9 1 [.b false, .s [], .b false, .s [], .b false, .s [], .b false, .s [], .b false] [(0, 9, (.t 55))], none⟩, 3, [8, 9], [0, 1, 2], 1⟩,
  ⟨⟨some 57, .app 78 9 104 (.t 53) (.t 56), none⟩, 2, [0, 1, 2, 3, 4, 5, 6, 7, 8, 9, 10], [2], 0⟩,
  ⟨⟨some 58, .iadA 3 1 (.t 4) (.c (.i .i64 (.ofNat 2))), none⟩, 0, [], [0, 1, 2], 0⟩,
  ⟨⟨some 59, .ld false 1 (.t 58), none⟩, 1, [12], [0, 1, 2], 0⟩,
  ⟨⟨some 60, .ld true 9 (.t 8), none⟩, 1, [], [0, 1, 2], 0⟩,
  ⟨⟨some 61, .buildS 78 9 1 [.b false, .s [], .b false, .s [], .b false, .s [], .b false, .s [], .b false] [(0, 9, (.t 60))], none⟩, 3, [14], [0, 1, 2], 2⟩,
  ⟨⟨some 62, .app 78 9 104 (.t 59) (.t 61), none⟩, 2, [0, 1, 2, 3, 4, 5, 6, 7, 8, 9, 10, 11, 12, 13, 14, 15], [], 0⟩,
  ⟨⟨some 63, .iadA 3 1 (.t 4) (.c (.i .i64 (.ofNat 0))), none⟩, 0, [0, 1, 2, 3, 4, 5, 6, 7, 12, 13], [1, 2], 0⟩,
  ⟨⟨none, .st 1 (.t 63) (.t 51), none⟩, 2, [0, 1, 2, 3, 4, 5, 6, 7, 8, 9, 10, 11, 12, 13, 14, 15, 16, 17], [], 0⟩,
  ⟨⟨some 64, .iadA 3 1 (.t 4) (.c (.i .i64 (.ofNat 1))), none⟩, 0, [0, 1, 2, 3, 4, 5, 6, 7, 8, 9, 10, 11, 12, 13, 14, 15, 16, 17, 18], [], 0⟩,
  ⟨⟨none, .st 1 (.t 64) (.t 57), none⟩, 2, [0, 1, 2, 3, 4, 5, 6, 7, 8, 9, 10, 11, 12, 13, 14, 15, 16, 17, 18, 19], [], 0⟩,
  ⟨⟨some 65, .iadA 3 1 (.t 4) (.c (.i .i64 (.ofNat 2))), none⟩, 0, [0, 1, 2, 3, 4, 5, 6, 7, 8, 9, 10, 11, 12, 13, 14, 15, 16, 17, 18, 19, 20], [], 0⟩,
  ⟨⟨none, .st 1 (.t 65) (.t 62), none⟩, 2, [0, 1, 2, 3, 4, 5, 6, 7, 8, 9, 10, 11, 12, 13, 14, 15, 16, 17, 18, 19, 20, 21], [], 0⟩]))))
 (.reg [⟨some 66, .bin .add (.t 38) (.c (.i .i64 (.ofNat 1))), none⟩,
  ⟨some 38, .mv (.t 66), none⟩])))))))))
 (.reg [⟨some 67, .bin .add (.t 26) (.c (.i .i64 (.ofNat 1))), none⟩,
  ⟨some 26, .mv (.t 67), none⟩])))))))
 (.seq (.reg [⟨some 10, .new 171 1 [.i .i64 (.ofNat 0), .i .i64 (.ofNat 0), .i .i64 (.ofNat 0)], none⟩,
  ⟨some 11, .new 171 1 [.i .i64 (.ofNat 0), .i .i64 (.ofNat 0), .i .i64 (.ofNat 0)], none⟩])
 (.seq (.seq (.reg [⟨some 68, .ld true 3 (.t 4), none⟩,
  ⟨some 69, .mv (.c (.i .i64 (.ofNat 0))), none⟩])
 (.block 4 (.loop (.seq (.reg [⟨some 70, .bin .lss (.t 69) (.c (.i .i64 (.ofNat 3))), none⟩])
 (.seq (.cond (.t 70) (.skip)
 (.exit 4))
 (.seq (.block 5 (.seq (.reg [⟨some 71, .mv (.t 69), none⟩,
  ⟨some 72, .idxA 3 1 false (.t 68) (.t 69), none⟩,
  ⟨some 12, .mv (.t 71), none⟩,
  ⟨some 13, .mv (.t 72), none⟩])
 (.seq (.reg [⟨some 73, .mv (.t 13), none⟩,
  ⟨some 74, .call 96 [(.t 73), (.c (.fn (.func 97) [] []))], none⟩,
  ⟨some 14, .new 78 9 [.b false, .s [], .b false, .s [], .b false, .s [], .b false, .s [], .b false], none⟩,
  ⟨none, .st 9 (.t 14) (.t 74), none⟩])
 (.seq (.reg [⟨some 75, .mv (.t 13), none⟩,
  ⟨some 76, .call 98 [(.t 75), (.c (.fn (.func 97) [] []))], none⟩,
  ⟨some 15, .new 78 9 [.b false, .s [], .b false, .s [], .b false, .s [], .b false, .s [], .b false], none⟩,
  ⟨none, .st 9 (.t 15) (.t 76), none⟩])
 (.seq (.reg [⟨some 78, .ld true 9 (.t 14), none⟩,
  ⟨some 79, .call 100 [(.t 78)], none⟩,
  ⟨some 80, .call 99 [(.t 79)], none⟩,
  ⟨some 77, .mv (.t 80), none⟩,
  ⟨some 81, .ext 0 (.t 77), none⟩,
  ⟨some 82, .ext 1 (.t 77), none⟩,
  ⟨some 16, .mv (.t 81), none⟩,
  ⟨some 17, .mv (.t 82), none⟩])
 (.seq (.reg [⟨some 84, .ld true 9 (.t 15), none⟩,
  ⟨some 85, .call 101 [(.t 84)], none⟩,
  ⟨some 86, .call 99 [(.t 85)], none⟩,
  ⟨some 83, .mv (.t 86), none⟩,
  ⟨some 87, .ext 0 (.t 83), none⟩,
  ⟨some 88, .ext 1 (.t 83), none⟩,
  ⟨some 18, .mv (.t 87), none⟩,
  ⟨some 19, .mv (.t 88), none⟩])
 (.seq (.seq (.reg [⟨some 89, .mv (.t 17), none⟩,
  ⟨some 90, .un .not (.t 89), none⟩,
  ⟨some 91, .mv (.t 90), none⟩,
  ⟨some 92, .mv (.t 19), (some (91, false))⟩,
  ⟨some 93, .un .not (.t 92), (some (91, false))⟩,
  ⟨some 94, .pick (.t 91) (.c (.b true)) (.t 93), none⟩,
  ⟨some 95, .mv (.t 94), none⟩,
  ⟨some 96, .mv (.t 16), (some (95, false))⟩,
  ⟨some 97, .bin .lss (.t 96) (.c (.i .i64 (.negSucc 1099511627775))), (some (95, false))⟩,
  ⟨some 98, .pick (.t 95) (.c (.b true)) (.t 97), none⟩,
  ⟨some 99, .mv (.t 98), none⟩,
  ⟨some 100, .mv (.t 18), (some (99, false))⟩,
  ⟨some 101, .bin .gtr (.t 100) (.c (.i .i64 (.ofNat 1099511627776))), (some (99, false))⟩,
  ⟨some 102, .pick (.t 99) (.c (.b true)) (.t 101), none⟩])
 (.cond (.t 102) (.seq (.reg [⟨some 103, .build [.i .i64 (.ofNat 0), .i .i64 (.ofNat 0), .i .i64 (.ofNat 0), .i .i64 (.ofNat 0), .i .i64 (.ofNat 0), .i .i64 (.ofNat 0)] [], none⟩,
  ⟨none, .st 6 (.t 2) (.t 103), none⟩,
  ⟨some 3, .mv (.c (.i .i64 (.ofNat 2))), none⟩])
 (.ret))
 (.skip)))
 (.reg [⟨some 104, .mv (.t 12), none⟩,
  ⟨some 105, .mv (.t 12), none⟩,
  ⟨some 106, .mv (.t 16), none⟩,
  ⟨some 107, .mv (.t 18), none⟩,
  ⟨some 108, .iadA 3 1 (.t 10) (.t 104), none⟩,
  ⟨none, .st 1 (.t 108) (.t 106), none⟩,
  ⟨some 109, .iadA 3 1 (.t 11) (.t 105), none⟩,
  ⟨none, .st 1 (.t 109) (.t 107), none⟩]))))))))
 (.reg [⟨some 110, .bin .add (.t 69) (.c (.i .i64 (.ofNat 1))), none⟩,
  ⟨some 69, .mv (.t 110), none⟩])))))))
 (.seq (.reg [⟨some 111, .iadA 3 1 (.t 10) (.c (.i .i64 (.ofNat 0))), none⟩,
  ⟨some 112, .ld false 1 (.t 111), none⟩,
  ⟨some 113, .iadA 3 1 (.t 11) (.c (.i .i64 (.ofNat 0))), none⟩,
  ⟨some 114, .ld false 1 (.t 113), none⟩,
  ⟨some 115, .iadA 3 1 (.t 10) (.c (.i .i64 (.ofNat 1))), none⟩,
  ⟨some 116, .ld false 1 (.t 115), none⟩,
  ⟨some 117, .iadA 3 1 (.t 11) (.c (.i .i64 (.ofNat 1))), none⟩,
  ⟨some 118, .ld false 1 (.t 117), none⟩,
  ⟨some 119, .iadA 3 1 (.t 10) (.c (.i .i64 (.ofNat 2))), none⟩,
  ⟨some 120, .ld false 1 (.t 119), none⟩,
  ⟨some 121, .iadA 3 1 (.t 11) (.c (.i .i64 (.ofNat 2))), none⟩,
  ⟨some 122, .ld false 1 (.t 121), none⟩,
  ⟨some 123, .build [.i .i64 (.ofNat 0), .i .i64 (.ofNat 0), .i .i64 (.ofNat 0), .i .i64 (.ofNat 0), .i .i64 (.ofNat 0), .i .i64 (.ofNat 0)] [(0, 1, (.t 112)), (1, 1, (.t 114)), (2, 1, (.t 116)), (3, 1, (.t 118)), (4, 1, (.t 120)), (5, 1, (.t 122))], none⟩,
  ⟨none, .st 6 (.t 2) (.t 123), none⟩,
  ⟨some 3, .mv (.c (.i .i64 (.ofNat 0))), none⟩])
 (.ret))))))), [.cell true 6 2, .t 3]⟩
def d58 : FDef := ⟨25, .seq (.reg [⟨some 4, .mv (.c (.b false)), none⟩])
 (.seq (.seq (.reg [⟨some 6, .mv (.t 0), none⟩,
  ⟨some 7, .lenS (.t 6), none⟩,
  ⟨some 8, .bin .sub (.t 7) (.c (.i .i64 (.ofNat 1))), none⟩,
  ⟨some 5, .mv (.t 8), none⟩])
 (.block 0 (.loop (.seq (.seq (.reg [⟨some 9, .mv (.t 5), none⟩,
  ⟨some 10, .bin .gtr (.t 9) (.c (.i .i64 (.ofNat 0))), none⟩])
 (.cond (.t 10) (.skip)
 (.exit 0)))
 (.seq (.block 1 (.seq (.dreg 0 [⟨⟨some 13, .mv (.t 1), none⟩, 0, [], [], 0⟩,
  ⟨⟨some 14, .mv (.t 0), none⟩, 0, [], [], 0⟩,
  ⟨⟨some 15, .mv (.t 5), none⟩, 0, [], [], 0⟩,
  ⟨⟨some 16, .iadS 37 (.t 14) (.t 15), none⟩, 0, [1, 2], [], 0⟩,
  ⟨⟨some 17, .ld true 37 (.t 16), none⟩, 1, [1, 2, 3], [], 0⟩,
  ⟨⟨some 18, .mv (.t 0), none⟩, 0, [], [], 0⟩,
  ⟨⟨some 19, .mv (.t 5), none⟩, 0, [], [], 0⟩,
  ⟨⟨some 20, .bin .sub (.t 19) (.c (.i .i64 (.ofNat 1))), none⟩, 0, [6], [], 0⟩,
  ⟨⟨some 21, .iadS 37 (.t 18) (.t 20), none⟩, 0, [5, 6, 7], [], 0⟩,
  ⟨⟨some 22, .ld true 37 (.t 21), none⟩, 1, [5, 6, 7, 8], [], 0⟩,
  ⟨⟨some 23, .callV (.t 13) [(.t 17), (.t 22)], none⟩, 2, [0, 1, 2, 3, 4, 5, 6, 7, 8, 9], [], 0⟩,
  ⟨⟨some 24, .bin .lss (.t 23) (.c (.i .i64 (.ofNat 0))), none⟩, 0, [0, 1, 2, 3, 4, 5, 6, 7, 8, 9, 10], [], 0⟩])
 (.cond (.t 24) (.seq (.reg [⟨some 4, .mv (.c (.b false)), none⟩])
 (.ret))
 (.skip))))
 (.reg [⟨some 11, .mv (.t 5), none⟩,
  ⟨some 12, .bin .sub (.t 11) (.c (.i .i64 (.ofNat 1))), none⟩,
  ⟨some 5, .mv (.t 12), none⟩]))))))
 (.seq (.reg [⟨some 4, .mv (.c (.b true)), none⟩])
 (.ret))), [.t 4]⟩
def d59 : FDef := ⟨10, .seq (.reg [⟨some 2, .box 86 37 (.t 0), none⟩,
  ⟨some 3, .box 86 37 (.t 1), none⟩,
  ⟨some 4, .mv (.c (.i .i64 (.ofNat 0))), none⟩])
 (.seq (.reg [⟨some 5, .fad 0 (.t 2), none⟩,
  ⟨some 6, .ld false 1 (.t 5), none⟩,
  ⟨some 7, .fad 0 (.t 3), none⟩,
  ⟨some 8, .ld false 1 (.t 7), none⟩,
  ⟨some 9, .call 60 [(.t 6), (.t 8)], none⟩,
  ⟨some 4, .mv (.t 9), none⟩])
 (.ret)), [.t 4]⟩
def d60 : FDef := ⟨20, .seq (.reg [⟨some 4, .mv (.c (.i .i64 (.ofNat 0))), none⟩])
 (.seq (.reg [⟨some 7, .mv (.t 0), none⟩,
  ⟨some 8, .call 102 [(.t 7)], none⟩,
  ⟨some 5, .mv (.t 8), none⟩])
 (.seq (.reg [⟨some 9, .mv (.t 1), none⟩,
  ⟨some 10, .call 102 [(.t 9)], none⟩,
  ⟨some 6, .mv (.t 10), none⟩])
 (.seq (.seq (.reg [⟨some 11, .mv (.t 5), none⟩])
 (.cond (.t 11) (.seq (.seq (.reg [⟨some 12, .mv (.t 6), none⟩])
 (.cond (.t 12) (.seq (.reg [⟨some 4, .mv (.c (.i .i64 (.ofNat 0))), none⟩])
 (.ret))
 (.skip)))
 (.seq (.reg [⟨some 4, .mv (.c (.i .i64 (.negSucc 0))), none⟩])
 (.ret)))
 (.skip)))
 (.seq (.seq (.reg [⟨some 13, .mv (.t 6), none⟩])
 (.cond (.t 13) (.seq (.reg [⟨some 4, .mv (.c (.i .i64 (.ofNat 1))), none⟩])
 (.ret))
 (.skip)))
 (.seq (.seq (.reg [⟨some 14, .mv (.t 0), none⟩,
  ⟨some 15, .mv (.t 1), none⟩,
  ⟨some 16, .bin .lss (.t 14) (.t 15), none⟩])
 (.cond (.t 16) (.seq (.reg [⟨some 4, .mv (.c (.i .i64 (.negSucc 0))), none⟩])
 (.ret))
 (.skip)))
 (.seq (.seq (.reg [⟨some 17, .mv (.t 0), none⟩,
  ⟨some 18, .mv (.t 1), none⟩,
  ⟨some 19, .bin .gtr (.t 17) (.t 18), none⟩])
 (.cond (.t 19) (.seq (.reg [⟨some 4, .mv (.c (.i .i64 (.ofNat 1))), none⟩])
 (.ret))
 (.skip)))
 (.seq (.reg [⟨some 4, .mv (.c (.i .i64 (.ofNat 0))), none⟩])
 (.ret)))))))), [.t 4]⟩
def d61 : FDef := ⟨45, .seq (.reg [⟨some 2, .mv (.c (.sl none 0 0 true)), none⟩])
 (.seq (.reg [⟨some 3, .mv (.c (.sl none 0 0 true)), none⟩])
 (.seq (.seq (.reg [⟨some 6, .mv (.t 0), none⟩,
  ⟨some 7, .lenS (.t 6), none⟩,
  ⟨some 8, .mv (.c (.i .i64 (.ofNat 0))), none⟩])
 (.block 0 (.loop (.seq (.reg [⟨some 9, .bin .lss (.t 8) (.t 7), none⟩])
 (.seq (.cond (.t 9) (.skip)
 (.exit 0))
 (.seq (.block 1 (.seq (.reg [⟨some 10, .mv (.t 8), none⟩,
  ⟨some 11, .iadS 37 (.t 6) (.t 8), none⟩,
  ⟨some 12, .ld true 37 (.t 11), none⟩,
  ⟨some 5, .new 86 37 [.i .i64 (.ofNat 0), .b false, .s [], .b false, .s [], .b false, .s [], .b false, .s [], .b false, .b false, .s [], .b false, .s [], .b false, .s [], .b false, .s [], .b false, .b false, .b false, .b false, .s [], .b false, .s [], .b false, .s [], .b false, .s [], .b false, .s [], .b false, .s [], .b false, .s [], .b false, .s []], none⟩,
  ⟨some 4, .mv (.t 10), none⟩,
  ⟨none, .st 37 (.t 5) (.t 12), none⟩])
 (.seq (.seq (.dreg 0 [⟨⟨some 13, .mv (.t 4), none⟩, 0, [], [], 0⟩,
  ⟨⟨some 14, .bin .eql (.t 13) (.c (.i .i64 (.ofNat 0))), none⟩, 0, [0], [], 0⟩,
  ⟨⟨some 15, .mv (.t 14), none⟩, 0, [0, 1], [], 0⟩,
  ⟨⟨some 16, .fad 0 (.t 5), (some (15, false))⟩, 0, [0, 1, 2], [], 0⟩,
  ⟨⟨some 17, .ld false 1 (.t 16), (some (15, false))⟩, 1, [0, 1, 2, 3], [], 0⟩,
  ⟨⟨some 18, .mv (.t 0), (some (15, false))⟩, 0, [0, 1, 2], [], 0⟩,
  ⟨⟨some 19, .mv (.t 4), (some (15, false))⟩, 0, [0, 1, 2], [], 0⟩,
  ⟨⟨some 20, .bin .sub (.t 19) (.c (.i .i64 (.ofNat 1))), (some (15, false))⟩, 0, [0, 1, 2, 6], [], 0⟩,
  ⟨⟨some 21, .iadS 37 (.t 18) (.t 20), (some (15, false))⟩, 0, [0, 1, 2, 5, 6, 7], [], 0⟩,
  ⟨⟨some 22, .fad 0 (.t 21), (some (15, false))⟩, 0, [0, 1, 2, 5, 6, 7, 8], [], 0⟩,
  ⟨⟨some 23, .ld false 1 (.t 22), (some (15, false))⟩, 1, [0, 1, 2, 5, 6, 7, 8, 9], [], 0⟩,
  ⟨⟨some 24, .bin .neq (.t 17) (.t 23), (some (15, false))⟩, 0, [0, 1, 2, 3, 4, 5, 6, 7, 8, 9, 10], [], 0⟩,
  ⟨⟨some 25, .pick (.t 15) (.c (.b true)) (.t 24), none⟩, 0, [0, 1, 2, 3, 4, 5, 6, 7, 8, 9, 10, 11], [], 0⟩])
 (.cond (.t 25) (.reg [⟨some 26, .mv (.t 3), none⟩,
  ⟨some 27, .buildS 31 1 1 [.sl none 0 0 true] [(0, 1, (.c (.sl none 0 0 true)))], none⟩,
  ⟨some 28, .app 31 1 24 (.t 26) (.t 27), none⟩,
  ⟨some 3, .mv (.t 28), none⟩])
 (.skip)))
 (.dreg 1 [⟨⟨some 29, .mv (.t 3), none⟩, 0, [], [0], 0⟩,
  ⟨⟨some 30, .mv (.t 3), none⟩, 0, [], [0], 0⟩,
  ⟨⟨some 31, .lenS (.t 30), none⟩, 0, [1], [0], 0⟩,
  ⟨⟨some 32, .bin .sub (.t 31) (.c (.i .i64 (.ofNat 1))), none⟩, 0, [1, 2], [0], 0⟩,
  ⟨⟨some 33, .mv (.t 3), none⟩, 0, [], [0], 0⟩,
  ⟨⟨some 34, .mv (.t 3), none⟩, 0, [], [0], 0⟩,
  ⟨⟨some 35, .lenS (.t 34), none⟩, 0, [5], [0], 0⟩,
  ⟨⟨some 36, .bin .sub (.t 35) (.c (.i .i64 (.ofNat 1))), none⟩, 0, [5, 6], [0], 0⟩,
  ⟨⟨some 37, .iadS 1 (.t 33) (.t 36), none⟩, 0, [4, 5, 6, 7], [0], 0⟩,
  ⟨⟨some 38, .ld false 1 (.t 37), none⟩, 1, [4, 5, 6, 7, 8], [0], 0⟩,
  ⟨⟨some 39, .ld true 37 (.t 5), none⟩, 1, [], [0], 0⟩,
  ⟨⟨some 40, .buildS 86 37 1 [.i .i64 (.ofNat 0), .b false, .s [], .b false, .s [], .b false, .s [], .b false, .s [], .b false, .b false, .s [], .b false, .s [], .b false, .s [], .b false, .s [], .b false, .b false, .b false, .b false, .s [], .b false, .s [], .b false, .s [], .b false, .s [], .b false, .s [], .b false, .s [], .b false, .s [], .b false, .s []] [(0, 37, (.t 39))], none⟩, 3, [10], [0], 0⟩,
  ⟨⟨some 41, .app 86 37 416 (.t 38) (.t 40), none⟩, 2, [4, 5, 6, 7, 8, 9, 10, 11], [], 0⟩,
  ⟨⟨some 42, .iadS 1 (.t 29) (.t 32), none⟩, 0, [0, 1, 2, 3, 4, 5, 6, 7, 8, 9, 10, 11, 12], [], 0⟩,
  ⟨⟨none, .st 1 (.t 42) (.t 41), none⟩, 2, [0, 1, 2, 3, 4, 5, 6, 7, 8, 9, 10, 11, 12, 13], [], 0⟩]))))
 (.reg [⟨some 43, .bin .add (.t 8) (.c (.i .i64 (.ofNat 1))), none⟩,
  ⟨some 8, .mv (.t 43), none⟩])))))))
 (.seq (.reg [⟨some 44, .mv (.t 3), none⟩,
  ⟨some 2, .mv (.t 44), none⟩])
 (.ret)))), [.t 2]⟩
def d62 : FDef := ⟨19, .seq (.reg [⟨some 2, .mv (.c (.sl none 0 0 true)), none⟩])
 (.seq (.reg [⟨some 3, .mv (.c (.sl none 0 0 true)), none⟩])
 (.seq (.seq (.reg [⟨some 6, .mv (.t 0), none⟩,
  ⟨some 7, .lenS (.t 6), none⟩,
  ⟨some 8, .mv (.c (.i .i64 (.ofNat 0))), none⟩])
 (.block 0 (.loop (.seq (.reg [⟨some 9, .bin .lss (.t 8) (.t 7), none⟩])
 (.seq (.cond (.t 9) (.skip)
 (.exit 0))
 (.seq (.block 1 (.seq (.reg [⟨some 10, .iadS 37 (.t 6) (.t 8), none⟩,
  ⟨some 11, .ld true 37 (.t 10), none⟩,
  ⟨some 5, .new 86 37 [.i .i64 (.ofNat 0), .b false, .s [], .b false, .s [], .b false, .s [], .b false, .s [], .b false, .b false, .s [], .b false, .s [], .b false, .s [], .b false, .s [], .b false, .b false, .b false, .b false, .s [], .b false, .s [], .b false, .s [], .b false, .s [], .b false, .s [], .b false, .s [], .b false, .s [], .b false, .s []], none⟩,
  ⟨none, .st 37 (.t 5) (.t 11), none⟩])
 (.reg [⟨some 12, .mv (.t 3), none⟩,
  ⟨some 13, .fad 1 (.t 5), none⟩,
  ⟨some 14, .ld true 36 (.t 13), none⟩,
  ⟨some 15, .buildS 84 36 1 [.b false, .s [], .b false, .s [], .b false, .s [], .b false, .s [], .b false, .b false, .s [], .b false, .s [], .b false, .s [], .b false, .s [], .b false, .b false, .b false, .b false, .s [], .b false, .s [], .b false, .s [], .b false, .s [], .b false, .s [], .b false, .s [], .b false, .s [], .b false, .s []] [(0, 36, (.t 14))], none⟩,
  ⟨some 16, .app 84 36 408 (.t 12) (.t 15), none⟩,
  ⟨some 3, .mv (.t 16), none⟩])))
 (.reg [⟨some 17, .bin .add (.t 8) (.c (.i .i64 (.ofNat 1))), none⟩,
  ⟨some 8, .mv (.t 17), none⟩])))))))
 (.seq (.reg [⟨some 18, .mv (.t 3), none⟩,
  ⟨some 2, .mv (.t 18), none⟩])
 (.ret)))), [.t 2]⟩
def d63 : FDef := ⟨172, .seq (.reg [⟨some 2, .mv (.c (.p none)), none⟩,
  ⟨some 3, .mv (.c (.i .i64 (.ofNat 0))), none⟩])
 (.seq (.seq (.reg [⟨some 15, .mv (.t 0), none⟩,
  ⟨some 16, .call 103 [(.t 15), (.c (.s [86, 83, 71, 49]))], none⟩,
  ⟨some 17, .un .not (.t 16), none⟩])
 (.cond (.t 17) (.seq (.seq (.reg [⟨some 18, .mv (.t 0), none⟩,
  ⟨some 19, .call 103 [(.c (.s [86, 83, 71, 49])), (.t 18)], none⟩])
 (.cond (.t 19) (.seq (.reg [⟨some 2, .mv (.c (.p none)), none⟩,
  ⟨some 3, .mv (.c (.i .i64 (.ofNat 22))), none⟩])
 (.ret))
 (.skip)))
 (.seq (.reg [⟨some 2, .mv (.c (.p none)), none⟩,
  ⟨some 3, .mv (.c (.i .i64 (.ofNat 23))), none⟩])
 (.ret)))
 (.skip)))
 (.seq (.reg [⟨some 20, .mv (.t 0), none⟩,
  ⟨some 21, .build [.s [], .i .i64 (.ofNat 0), .i .i64 (.ofNat 0)] [(0, 1, (.t 20)), (1, 1, (.c (.i .i64 (.ofNat 4))))], none⟩,
  ⟨some 22, .box 181 3 (.t 21), none⟩,
  ⟨some 4, .mv (.t 22), none⟩])
 (.seq (.reg [⟨some 23, .mv (.t 4), none⟩,
  ⟨some 24, .call 104 [(.t 23)], none⟩,
  ⟨some 5, .mv (.t 24), none⟩])
 (.seq (.seq (.reg [⟨some 25, .mv (.t 4), none⟩,
  ⟨some 26, .nilChk (.t 25), none⟩,
  ⟨some 27, .fad 2 (.t 26), none⟩,
  ⟨some 28, .ld false 1 (.t 27), none⟩,
  ⟨some 29, .bin .eql (.t 28) (.c (.i .i64 (.ofNat 0))), none⟩,
  ⟨some 30, .mv (.t 29), none⟩,
  ⟨some 31, .mv (.t 5), (some (30, true))⟩,
  ⟨some 32, .bin .lss (.t 31) (.c (.i .i64 (.ofNat 0))), (some (30, true))⟩,
  ⟨some 33, .pick (.t 30) (.t 32) (.c (.b false)), none⟩])
 (.cond (.t 33) (.reg [⟨some 34, .mv (.t 4), none⟩,
  ⟨some 35, .nilChk (.t 34), none⟩,
  ⟨some 36, .fad 2 (.t 35), none⟩,
  ⟨none, .st 1 (.t 36) (.c (.i .i64 (.ofNat 5))), none⟩])
 (.skip)))
 (.seq (.reg [⟨some 37, .mv (.t 4), none⟩,
  ⟨some 38, .mv (.t 5), none⟩,
  ⟨some 39, .call 105 [(.t 37), (.t 38)], none⟩,
  ⟨some 6, .mv (.t 39), none⟩])
 (.seq (.reg [⟨some 40, .mv (.t 4), none⟩,
  ⟨some 41, .nilChk (.t 40), none⟩,
  ⟨some 42, .fad 1 (.t 41), none⟩,
  ⟨some 43, .ld false 1 (.t 42), none⟩,
  ⟨some 7, .mv (.t 43), none⟩])
 (.seq (.seq (.reg [⟨some 44, .mv (.t 4), none⟩,
  ⟨some 45, .call 105 [(.t 44), (.c (.i .i64 (.ofNat 4)))], none⟩,
  ⟨some 8, .mv (.t 45), none⟩])
 (.seq (.reg [⟨some 46, .mv (.t 4), none⟩,
  ⟨some 47, .nilChk (.t 46), none⟩,
  ⟨some 48, .fad 2 (.t 47), none⟩,
  ⟨some 49, .ld false 1 (.t 48), none⟩,
  ⟨some 50, .bin .eql (.t 49) (.c (.i .i64 (.ofNat 0))), none⟩,
  ⟨some 51, .mv (.t 50), none⟩,
  ⟨some 52, .mv (.t 8), (some (51, true))⟩,
  ⟨some 53, .mv (.t 0), (some (51, true))⟩,
  ⟨some 54, .mv (.t 7), (some (51, true))⟩,
  ⟨some 55, .slcT (.t 53) none (some (.t 54)), (some (51, true))⟩,
  ⟨some 56, .call 53 [(.t 55)], (some (51, true))⟩,
  ⟨some 57, .bin .neq (.t 52) (.t 56), (some (51, true))⟩,
  ⟨some 58, .pick (.t 51) (.t 57) (.c (.b false)), none⟩])
 (.cond (.t 58) (.reg [⟨some 59, .mv (.t 4), none⟩,
  ⟨some 60, .nilChk (.t 59), none⟩,
  ⟨some 61, .fad 2 (.t 60), none⟩,
  ⟨none, .st 1 (.t 61) (.c (.i .i64 (.ofNat 21))), none⟩])
 (.skip))))
 (.seq (.seq (.reg [⟨some 62, .mv (.t 4), none⟩,
  ⟨some 63, .nilChk (.t 62), none⟩,
  ⟨some 64, .fad 2 (.t 63), none⟩,
  ⟨some 65, .ld false 1 (.t 64), none⟩,
  ⟨some 66, .bin .neq (.t 65) (.c (.i .i64 (.ofNat 0))), none⟩])
 (.cond (.t 66) (.seq (.dreg 0 [⟨⟨some 67, .mv (.t 4), none⟩, 0, [], [], 0⟩,
  ⟨⟨some 68, .nilChk (.t 67), none⟩, 0, [0], [], 0⟩,
  ⟨⟨some 69, .fad 2 (.t 68), none⟩, 0, [0, 1], [], 0⟩,
  ⟨⟨some 70, .ld false 1 (.t 69), none⟩, 1, [0, 1, 2], [], 0⟩,
  ⟨⟨some 2, .mv (.c (.p none)), none⟩, 0, [], [], 0⟩,
  ⟨⟨some 3, .mv (.t 70), none⟩, 0, [0, 1, 2, 3, 4], [], 0⟩])
 (.ret))
 (.skip)))
 (.seq (.reg [⟨some 71, .mv (.t 6), none⟩,
  ⟨some 72, .build [.s [], .i .i64 (.ofNat 0), .i .i64 (.ofNat 0)] [(0, 1, (.t 71))], none⟩,
  ⟨some 73, .box 181 3 (.t 72), none⟩,
  ⟨some 9, .mv (.t 73), none⟩])
 (.seq (.reg [⟨some 74, .mv (.t 9), none⟩,
  ⟨some 75, .call 106 [(.t 74), (.c (.i .i64 (.ofNat 4096)))], none⟩,
  ⟨some 76, .build [.i .i64 (.ofNat 0), .sl none 0 0 true] [(0, 1, (.t 75))], none⟩,
  ⟨some 77, .box 138 2 (.t 76), none⟩,
  ⟨some 10, .mv (.t 77), none⟩])
 (.seq (.seq (.reg [⟨some 78, .mv (.t 10), none⟩,
  ⟨some 79, .nilChk (.t 78), none⟩,
  ⟨some 80, .fad 0 (.t 79), none⟩,
  ⟨some 81, .ld false 1 (.t 80), none⟩,
  ⟨some 82, .bin .add (.t 81) (.c (.i .i64 (.ofNat 16))), none⟩,
  ⟨some 83, .bin .sub (.t 82) (.c (.i .i64 (.ofNat 1))), none⟩,
  ⟨some 84, .bin .quo (.t 83) (.c (.i .i64 (.ofNat 16))), none⟩,
  ⟨some 85, .mv (.c (.i .i64 (.ofNat 0))), none⟩])
 (.block 0 (.loop (.seq (.reg [⟨some 86, .bin .lss (.t 85) (.t 84), none⟩])
 (.seq (.cond (.t 86) (.skip)
 (.exit 0))
 (.seq (.block 1 (.seq (.reg [⟨some 87, .mv (.t 9), none⟩,
  ⟨some 88, .call 106 [(.t 87), (.c (.i .i64 (.ofNat 1099511627776)))], none⟩,
  ⟨some 11, .mv (.t 88), none⟩])
 (.seq (.reg [⟨some 12, .new 133 8 [.i .i64 (.ofNat 0), .i .i64 (.ofNat 0), .i .i64 (.ofNat 0), .i .i64 (.ofNat 0), .i .i64 (.ofNat 0), .i .i64 (.ofNat 0), .sl none 0 0 true, .s []], none⟩])
 (.seq (.seq (.reg [⟨some 89, .fad 0 (.t 12), none⟩,
  ⟨some 90, .fad 0 (.t 89), none⟩,
  ⟨some 91, .fad 0 (.t 12), none⟩,
  ⟨some 92, .fad 1 (.t 91), none⟩,
  ⟨some 93, .fad 0 (.t 12), none⟩,
  ⟨some 94, .fad 2 (.t 93), none⟩,
  ⟨some 95, .fad 0 (.t 12), none⟩,
  ⟨some 96, .fad 3 (.t 95), none⟩,
  ⟨some 97, .fad 0 (.t 12), none⟩,
  ⟨some 98, .fad 4 (.t 97), none⟩,
  ⟨some 99, .fad 0 (.t 12), none⟩,
  ⟨some 100, .fad 5 (.t 99), none⟩,
  ⟨some 101, .build [.p none, .p none, .p none, .p none, .p none, .p none] [(0, 1, (.t 90)), (1, 1, (.t 92)), (2, 1, (.t 94)), (3, 1, (.t 96)), (4, 1, (.t 98)), (5, 1, (.t 100))], none⟩,
  ⟨some 102, .mv (.c (.i .i64 (.ofNat 0))), none⟩])
 (.block 2 (.loop (.seq (.reg [⟨some 103, .bin .lss (.t 102) (.c (.i .i64 (.ofNat 6))), none⟩])
 (.seq (.cond (.t 103) (.skip)
 (.exit 2))
 (.seq (.block 3 (.seq (.reg [⟨some 104, .idxA 6 1 false (.t 101) (.t 102), none⟩,
  ⟨some 14, .mv (.t 104), none⟩])
 (.reg [⟨some 105, .mv (.t 14), none⟩,
  ⟨some 106, .mv (.t 9), none⟩,
  ⟨some 107, .call 104 [(.t 106)], none⟩,
  ⟨some 108, .nilChk (.t 105), none⟩,
  ⟨none, .st 1 (.t 108) (.t 107), none⟩])))
 (.reg [⟨some 109, .bin .add (.t 102) (.c (.i .i64 (.ofNat 1))), none⟩,
  ⟨some 102, .mv (.t 109), none⟩])))))))
 (.seq (.seq (.reg [⟨some 110, .mv (.t 9), none⟩,
  ⟨some 111, .call 106 [(.t 110), (.c (.i .i64 (.ofNat 16)))], none⟩,
  ⟨some 112, .mv (.c (.i .i64 (.ofNat 0))), none⟩])
 (.block 4 (.loop (.seq (.reg [⟨some 113, .bin .lss (.t 112) (.t 111), none⟩])
 (.seq (.cond (.t 113) (.skip)
 (.exit 4))
 (.seq (.block 5 (.dreg 1 [⟨⟨some 114, .fad 6 (.t 12), none⟩, 0, [], [0], 0⟩,
  ⟨⟨some 115, .ld false 1 (.t 114), none⟩, 1, [0], [0], 0⟩,
  ⟨⟨some 116, .mv (.t 9), none⟩, 0, [], [0], 0⟩,
  ⟨⟨some 117, .call 104 [(.t 116)], none⟩, 2, [2], [0], 0⟩,
  ⟨⟨some 118, .buildS 3 1 1 [.i .i64 (.ofNat 0)] [(0, 1, (.t 117))], none⟩, 3, [2, 3], [0], 0⟩,
  ⟨⟨some 119, .app 3 1 8 (.t 115) (.t 118), none⟩, 2, [0, 1, 2, 3, 4], [], 0⟩,
  ⟨⟨some 120, .fad 6 (.t 12), none⟩, 0, [0, 1, 2, 3, 4, 5], [], 0⟩,
  ⟨⟨none, .st 1 (.t 120) (.t 119), none⟩, 2, [0, 1, 2, 3, 4, 5, 6], [], 0⟩]))
 (.reg [⟨some 121, .bin .add (.t 112) (.c (.i .i64 (.ofNat 1))), none⟩,
  ⟨some 112, .mv (.t 121), none⟩])))))))
 (.seq (.reg [⟨some 122, .mv (.t 4), none⟩,
  ⟨some 123, .mv (.t 11), none⟩,
  ⟨some 124, .bin .add (.t 123) (.c (.i .i64 (.ofNat 4))), none⟩,
  ⟨some 125, .call 105 [(.t 122), (.t 124)], none⟩,
  ⟨some 126, .fad 7 (.t 12), none⟩,
  ⟨none, .st 1 (.t 126) (.t 125), none⟩])
 (.dreg 1 [⟨⟨some 127, .mv (.t 10), none⟩, 0, [], [0], 0⟩,
  ⟨⟨some 128, .mv (.t 10), none⟩, 0, [], [0], 0⟩,
  ⟨⟨some 129, .nilChk (.t 128), none⟩, 0, [1], [0], 0⟩,
  ⟨⟨some 130, .fad 1 (.t 129), none⟩, 0, [1, 2], [0], 0⟩,
  ⟨⟨some 131, .ld false 1 (.t 130), none⟩, 1, [1, 2, 3], [0], 0⟩,
  ⟨⟨some 132, .ld true 8 (.t 12), none⟩, 1, [], [0], 0⟩,
  ⟨⟨some 133, .buildS 133 8 1 [.i .i64 (.ofNat 0), .i .i64 (.ofNat 0), .i .i64 (.ofNat 0), .i .i64 (.ofNat 0), .i .i64 (.ofNat 0), .i .i64 (.ofNat 0), .sl none 0 0 true, .s []] [(0, 8, (.t 132))], none⟩, 3, [5], [0], 0⟩,
  ⟨⟨some 134, .app 133 8 88 (.t 131) (.t 133), none⟩, 2, [1, 2, 3, 4, 5, 6], [], 0⟩,
  ⟨⟨some 135, .nilChk (.t 127), none⟩, 0, [0, 1, 2, 3, 4, 5, 6, 7], [], 0⟩,
  ⟨⟨some 136, .fad 1 (.t 135), none⟩, 0, [0, 1, 2, 3, 4, 5, 6, 7, 8], [], 0⟩,
  ⟨⟨none, .st 1 (.t 136) (.t 134), none⟩, 2, [0, 1, 2, 3, 4, 5, 6, 7, 8, 9], [], 0⟩])))))))
 (.reg [⟨some 137, .bin .add (.t 85) (.c (.i .i64 (.ofNat 1))), none⟩,
  ⟨some 85, .mv (.t 137), none⟩])))))))
 (.seq (.block 6 (.seq (.reg [⟨some 139, .mv (.t 9), none⟩,
  ⟨some 140, .nilChk (.t 139), none⟩,
  ⟨some 141, .fad 2 (.t 140), none⟩,
  ⟨some 142, .ld false 1 (.t 141), none⟩,
  ⟨some 143, .bin .neq (.t 142) (.c (.i .i64 (.ofNat 0))), none⟩,
  ⟨some 144, .mv (.t 143), none⟩,
  ⟨some 145, .mv (.t 9), (some (144, false))⟩,
  ⟨some 146, .nilChk (.t 145), (some (144, false))⟩,
  ⟨some 147, .fad 1 (.t 146), (some (144, false))⟩,
  ⟨some 148, .ld false 1 (.t 147), (some (144, false))⟩,
  ⟨some 149, .mv (.t 6), (some (144, false))⟩,
  ⟨some 150, .lenT (.t 149), (some (144, false))⟩,
  ⟨some 151, .bin .neq (.t 148) (.t 150), (some (144, false))⟩,
  ⟨some 152, .pick (.t 144) (.c (.b true)) (.t 151), none⟩,
  ⟨some 138, .mv (.t 152), none⟩])
 (.cond (.t 138) (.seq (.reg [⟨some 2, .mv (.c (.p none)), none⟩,
  ⟨some 3, .mv (.c (.i .i64 (.ofNat 5))), none⟩])
 (.ret))
 (.seq (.reg [⟨some 154, .mv (.t 4), none⟩,
  ⟨some 155, .nilChk (.t 154), none⟩,
  ⟨some 156, .fad 2 (.t 155), none⟩,
  ⟨some 157, .ld false 1 (.t 156), none⟩,
  ⟨some 158, .bin .neq (.t 157) (.c (.i .i64 (.ofNat 0))), none⟩,
  ⟨some 153, .mv (.t 158), none⟩])
 (.cond (.t 153) (.seq (.dreg 0 [⟨⟨some 159, .mv (.t 4), none⟩, 0, [], [], 0⟩,
  ⟨⟨some 160, .nilChk (.t 159), none⟩, 0, [0], [], 0⟩,
  ⟨⟨some 161, .fad 2 (.t 160), none⟩, 0, [0, 1], [], 0⟩,
  ⟨⟨some 162, .ld false 1 (.t 161), none⟩, 1, [0, 1, 2], [], 0⟩,
  ⟨⟨some 2, .mv (.c (.p none)), none⟩, 0, [], [], 0⟩,
  ⟨⟨some 3, .mv (.t 162), none⟩, 0, [0, 1, 2, 3, 4], [], 0⟩])
 (.ret))
 (.seq (.reg [⟨some 164, .mv (.t 4), none⟩,
  ⟨some 165, .nilChk (.t 164), none⟩,
  ⟨some 166, .fad 1 (.t 165), none⟩,
  ⟨some 167, .ld false 1 (.t 166), none⟩,
  ⟨some 168, .mv (.t 0), none⟩,
  ⟨some 169, .lenT (.t 168), none⟩,
  ⟨some 170, .bin .neq (.t 167) (.t 169), none⟩,
  ⟨some 163, .mv (.t 170), none⟩])
 (.cond (.t 163) (.seq (.reg [⟨some 2, .mv (.c (.p none)), none⟩,
  ⟨some 3, .mv (.c (.i .i64 (.ofNat 5))), none⟩])
 (.ret))
 (.skip))))))))
 (.seq (.reg [⟨some 171, .mv (.t 10), none⟩,
  ⟨some 2, .mv (.t 171), none⟩,
  ⟨some 3, .mv (.c (.i .i64 (.ofNat 0))), none⟩])
 (.ret)))))))))))))), [.t 2, .t 3]⟩
def d64 : FDef := ⟨56, .seq (.reg [⟨some 8, .mv (.c (.sl none 0 0 true)), none⟩,
  ⟨some 9, .mv (.c (.i .i64 (.ofNat 0))), none⟩])
 (.seq (.reg [⟨some 10, .mv (.c (.sl none 0 0 true)), none⟩])
 (.seq (.seq (.reg [⟨some 17, .mv (.t 0), none⟩,
  ⟨some 18, .nilChk (.t 17), none⟩,
  ⟨some 19, .fad 1 (.t 18), none⟩,
  ⟨some 20, .ld false 1 (.t 19), none⟩,
  ⟨some 21, .lenS (.t 20), none⟩,
  ⟨some 22, .mv (.c (.i .i64 (.ofNat 0))), none⟩])
 (.block 0 (.loop (.seq (.reg [⟨some 23, .bin .lss (.t 22) (.t 21), none⟩])
 (.seq (.cond (.t 23) (.skip)
 (.exit 0))
 (.seq (.block 1 (.seq (.reg [⟨some 24, .mv (.t 22), none⟩,
  ⟨some 25, .iadS 8 (.t 20) (.t 22), none⟩,
  ⟨some 26, .ld true 8 (.t 25), none⟩,
  ⟨some 12, .new 133 8 [.i .i64 (.ofNat 0), .i .i64 (.ofNat 0), .i .i64 (.ofNat 0), .i .i64 (.ofNat 0), .i .i64 (.ofNat 0), .i .i64 (.ofNat 0), .sl none 0 0 true, .s []], none⟩,
  ⟨some 11, .mv (.t 24), none⟩,
  ⟨none, .st 8 (.t 12) (.t 26), none⟩])
 (.seq (.seq (.reg [⟨some 27, .mv (.t 2), none⟩,
  ⟨some 28, .ld true 8 (.t 12), none⟩,
  ⟨some 29, .callV (.t 27) [(.t 28)], none⟩,
  ⟨some 30, .un .not (.t 29), none⟩])
 (.cond (.t 30) (.exit 1)
 (.skip)))
 (.seq (.reg [⟨some 32, .mv (.t 1), none⟩,
  ⟨some 33, .mv (.t 11), none⟩,
  ⟨some 34, .callV (.t 32) [(.t 33)], none⟩,
  ⟨some 31, .mv (.t 34), none⟩,
  ⟨some 35, .ext 0 (.t 31), none⟩,
  ⟨some 36, .ext 1 (.t 31), none⟩,
  ⟨some 13, .mv (.t 35), none⟩,
  ⟨some 14, .mv (.t 36), none⟩])
 (.seq (.seq (.reg [⟨some 37, .mv (.t 14), none⟩,
  ⟨some 38, .bin .neq (.t 37) (.c (.i .i64 (.ofNat 0))), none⟩])
 (.cond (.t 38) (.seq (.reg [⟨some 39, .mv (.t 14), none⟩,
  ⟨some 8, .mv (.c (.sl none 0 0 true)), none⟩,
  ⟨some 9, .mv (.t 39), none⟩])
 (.ret))
 (.skip)))
 (.seq (.reg [⟨some 40, .mv (.t 13), none⟩,
  ⟨some 41, .lenS (.t 40), none⟩,
  ⟨some 42, .mv (.c (.i .i64 (.ofNat 0))), none⟩])
 (.block 2 (.loop (.seq (.reg [⟨some 43, .bin .lss (.t 42) (.t 41), none⟩])
 (.seq (.cond (.t 43) (.skip)
 (.exit 2))
 (.seq (.block 3 (.seq (.reg [⟨some 44, .iadS 37 (.t 40) (.t 42), none⟩,
  ⟨some 45, .ld true 37 (.t 44), none⟩,
  ⟨some 16, .new 86 37 [.i .i64 (.ofNat 0), .b false, .s [], .b false, .s [], .b false, .s [], .b false, .s [], .b false, .b false, .s [], .b false, .s [], .b false, .s [], .b false, .s [], .b false, .b false, .b false, .b false, .s [], .b false, .s [], .b false, .s [], .b false, .s [], .b false, .s [], .b false, .s [], .b false, .s [], .b false, .s []], none⟩,
  ⟨none, .st 37 (.t 16) (.t 45), none⟩])
 (.seq (.reg [⟨some 46, .mv (.t 3), none⟩,
  ⟨some 47, .ld true 37 (.t 16), none⟩,
  ⟨some 48, .callV (.t 46) [(.t 47)], none⟩])
 (.cond (.t 48) (.reg [⟨some 49, .mv (.t 10), none⟩,
  ⟨some 50, .ld true 37 (.t 16), none⟩,
  ⟨some 51, .buildS 86 37 1 [.i .i64 (.ofNat 0), .b false, .s [], .b false, .s [], .b false, .s [], .b false, .s [], .b false, .b false, .s [], .b false, .s [], .b false, .s [], .b false, .s [], .b false, .b false, .b false, .b false, .s [], .b false, .s [], .b false, .s [], .b false, .s [], .b false, .s [], .b false, .s [], .b false, .s [], .b false, .s []] [(0, 37, (.t 50))], none⟩,
  ⟨some 52, .app 86 37 416 (.t 49) (.t 51), none⟩,
  ⟨some 10, .mv (.t 52), none⟩])
 (.skip)))))
 (.reg [⟨some 53, .bin .add (.t 42) (.c (.i .i64 (.ofNat 1))), none⟩,
  ⟨some 42, .mv (.t 53), none⟩]))))))))))))
 (.reg [⟨some 54, .bin .add (.t 22) (.c (.i .i64 (.ofNat 1))), none⟩,
  ⟨some 22, .mv (.t 54), none⟩])))))))
 (.seq (.reg [⟨some 55, .mv (.t 10), none⟩,
  ⟨some 8, .mv (.t 55), none⟩,
  ⟨some 9, .mv (.c (.i .i64 (.ofNat 0))), none⟩])
 (.ret)))), [.t 8, .t 9]⟩
def d65 : FDef := ⟨90, .seq (.reg [⟨some 4, .mv (.c (.sl none 0 0 true)), none⟩,
  ⟨some 5, .mv (.c (.i .i64 (.ofNat 0))), none⟩])
 (.seq (.reg [⟨some 13, .mv (.t 0), none⟩,
  ⟨some 14, .nilChk (.t 13), none⟩,
  ⟨some 15, .fad 1 (.t 14), none⟩,
  ⟨some 16, .ld false 1 (.t 15), none⟩,
  ⟨some 17, .mv (.t 1), none⟩,
  ⟨some 18, .iadS 8 (.t 16) (.t 17), none⟩,
  ⟨some 19, .fad 7 (.t 18), none⟩,
  ⟨some 20, .ld false 1 (.t 19), none⟩,
  ⟨some 6, .mv (.t 20), none⟩])
 (.seq (.reg [⟨some 21, .mv (.t 6), none⟩,
  ⟨some 22, .mv (.t 6), none⟩,
  ⟨some 23, .lenT (.t 22), none⟩,
  ⟨some 24, .bin .sub (.t 23) (.c (.i .i64 (.ofNat 4))), none⟩,
  ⟨some 25, .slcT (.t 21) none (some (.t 24)), none⟩,
  ⟨some 7, .mv (.t 25), none⟩])
 (.seq (.seq (.dreg 0 [⟨⟨some 26, .mv (.t 7), none⟩, 0, [], [], 0⟩,
  ⟨⟨some 27, .call 53 [(.t 26)], none⟩, 2, [0], [], 0⟩,
  ⟨⟨some 28, .mv (.t 6), none⟩, 0, [], [], 0⟩,
  ⟨⟨some 29, .mv (.t 7), none⟩, 0, [], [], 0⟩,
  ⟨⟨some 30, .lenT (.t 29), none⟩, 0, [3], [], 0⟩,
  ⟨⟨some 31, .slcT (.t 28) (some (.t 30)) none, none⟩, 0, [2, 3, 4], [], 0⟩,
  ⟨⟨some 32, .bin .neq (.t 27) (.t 31), none⟩, 0, [0, 1, 2, 3, 4, 5], [], 0⟩])
 (.cond (.t 32) (.seq (.reg [⟨some 4, .mv (.c (.sl none 0 0 true)), none⟩,
  ⟨some 5, .mv (.c (.i .i64 (.ofNat 21))), none⟩])
 (.ret))
 (.skip)))
 (.seq (.reg [⟨some 33, .mv (.t 7), none⟩,
  ⟨some 34, .build [.s [], .i .i64 (.ofNat 0), .i .i64 (.ofNat 0)] [(0, 1, (.t 33))], none⟩,
  ⟨some 35, .box 181 3 (.t 34), none⟩,
  ⟨some 8, .mv (.t 35), none⟩])
 (.seq (.reg [⟨some 9, .mv (.c (.sl none 0 0 true)), none⟩])
 (.seq (.seq (.reg [⟨some 36, .mv (.t 8), none⟩,
  ⟨some 37, .call 106 [(.t 36), (.c (.i .i64 (.ofNat 16)))], none⟩,
  ⟨some 38, .mv (.c (.i .i64 (.ofNat 0))), none⟩])
 (.block 0 (.loop (.seq (.reg [⟨some 39, .bin .lss (.t 38) (.t 37), none⟩])
 (.seq (.cond (.t 39) (.skip)
 (.exit 0))
 (.seq (.block 1 (.seq (.reg [⟨some 40, .mv (.t 8), none⟩,
  ⟨some 41, .call 104 [(.t 40)], none⟩,
  ⟨some 10, .mv (.t 41), none⟩])
 (.seq (.reg [⟨some 43, .mv (.t 8), none⟩,
  ⟨some 44, .mv (.t 8), none⟩,
  ⟨some 45, .mv (.t 7), none⟩,
  ⟨some 46, .lenT (.t 45), none⟩,
  ⟨some 47, .call 106 [(.t 44), (.t 46)], none⟩,
  ⟨some 48, .call 105 [(.t 43), (.t 47)], none⟩,
  ⟨some 49, .call 107 [(.t 48)], none⟩,
  ⟨some 42, .mv (.t 49), none⟩,
  ⟨some 50, .ext 0 (.t 42), none⟩,
  ⟨some 51, .ext 1 (.t 42), none⟩,
  ⟨some 11, .mv (.t 50), none⟩,
  ⟨some 12, .mv (.t 51), none⟩])
 (.seq (.seq (.reg [⟨some 52, .mv (.t 8), none⟩,
  ⟨some 53, .nilChk (.t 52), none⟩,
  ⟨some 54, .fad 2 (.t 53), none⟩,
  ⟨some 55, .ld false 1 (.t 54), none⟩,
  ⟨some 56, .bin .neq (.t 55) (.c (.i .i64 (.ofNat 0))), none⟩,
  ⟨some 57, .mv (.t 56), none⟩,
  ⟨some 58, .mv (.t 12), (some (57, false))⟩,
  ⟨some 59, .bin .neq (.t 58) (.c (.i .i64 (.ofNat 0))), (some (57, false))⟩,
  ⟨some 60, .pick (.t 57) (.c (.b true)) (.t 59), none⟩,
  ⟨some 61, .mv (.t 60), none⟩,
  ⟨some 62, .mv (.t 11), (some (61, false))⟩,
  ⟨some 63, .lenS (.t 62), (some (61, false))⟩,
  ⟨some 64, .bin .neq (.t 63) (.c (.i .i64 (.ofNat 1))), (some (61, false))⟩,
  ⟨some 65, .pick (.t 61) (.c (.b true)) (.t 64), none⟩])
 (.cond (.t 65) (.seq (.reg [⟨some 4, .mv (.c (.sl none 0 0 true)), none⟩,
  ⟨some 5, .mv (.c (.i .i64 (.ofNat 5))), none⟩])
 (.ret))
 (.skip)))
 (.reg [⟨some 66, .mv (.t 9), none⟩,
  ⟨some 67, .mv (.t 10), none⟩,
  ⟨some 68, .mv (.t 11), none⟩,
  ⟨some 69, .iadS 36 (.t 68) (.c (.i .i64 (.ofNat 0))), none⟩,
  ⟨some 70, .ld true 36 (.t 69), none⟩,
  ⟨some 71, .build [.i .i64 (.ofNat 0), .b false, .s [], .b false, .s [], .b false, .s [], .b false, .s [], .b false, .b false, .s [], .b false, .s [], .b false, .s [], .b false, .s [], .b false, .b false, .b false, .b false, .s [], .b false, .s [], .b false, .s [], .b false, .s [], .b false, .s [], .b false, .s [], .b false, .s [], .b false, .s []] [(0, 1, (.t 67)), (1, 36, (.t 70))], none⟩,
  ⟨some 72, .buildS 86 37 1 [.i .i64 (.ofNat 0), .b false, .s [], .b false, .s [], .b false, .s [], .b false, .s [], .b false, .b false, .s [], .b false, .s [], .b false, .s [], .b false, .s [], .b false, .b false, .b false, .b false, .s [], .b false, .s [], .b false, .s [], .b false, .s [], .b false, .s [], .b false, .s [], .b false, .s [], .b false, .s []] [(0, 37, (.t 71))], none⟩,
  ⟨some 73, .app 86 37 416 (.t 66) (.t 72), none⟩,
  ⟨some 9, .mv (.t 73), none⟩])))))
 (.reg [⟨some 74, .bin .add (.t 38) (.c (.i .i64 (.ofNat 1))), none⟩,
  ⟨some 38, .mv (.t 74), none⟩])))))))
 (.seq (.seq (.reg [⟨some 75, .mv (.t 8), none⟩,
  ⟨some 76, .nilChk (.t 75), none⟩,
  ⟨some 77, .fad 2 (.t 76), none⟩,
  ⟨some 78, .ld false 1 (.t 77), none⟩,
  ⟨some 79, .bin .neq (.t 78) (.c (.i .i64 (.ofNat 0))), none⟩,
  ⟨some 80, .mv (.t 79), none⟩,
  ⟨some 81, .mv (.t 8), (some (80, false))⟩,
  ⟨some 82, .nilChk (.t 81), (some (80, false))⟩,
  ⟨some 83, .fad 1 (.t 82), (some (80, false))⟩,
  ⟨some 84, .ld false 1 (.t 83), (some (80, false))⟩,
  ⟨some 85, .mv (.t 7), (some (80, false))⟩,
  ⟨some 86, .lenT (.t 85), (some (80, false))⟩,
  ⟨some 87, .bin .neq (.t 84) (.t 86), (some (80, false))⟩,
  ⟨some 88, .pick (.t 80) (.c (.b true)) (.t 87), none⟩])
 (.cond (.t 88) (.seq (.reg [⟨some 4, .mv (.c (.sl none 0 0 true)), none⟩,
  ⟨some 5, .mv (.c (.i .i64 (.ofNat 5))), none⟩])
 (.ret))
 (.skip)))
 (.seq (.reg [⟨some 89, .mv (.t 9), none⟩,
  ⟨some 4, .mv (.t 89), none⟩,
  ⟨some 5, .mv (.c (.i .i64 (.ofNat 0))), none⟩])
 (.ret))))))))), [.t 4, .t 5]⟩
def d66 : FDef := ⟨3, .seq (.reg [⟨some 1, .box 133 8 (.t 0), none⟩,
  ⟨some 2, .mv (.c (.b false)), none⟩])
 (.seq (.reg [⟨some 2, .mv (.c (.b true)), none⟩])
 (.ret)), [.t 2]⟩
def d67 : FDef := ⟨3, .seq (.reg [⟨some 1, .box 86 37 (.t 0), none⟩,
  ⟨some 2, .mv (.c (.b false)), none⟩])
 (.seq (.reg [⟨some 2, .mv (.c (.b true)), none⟩])
 (.ret)), [.t 2]⟩
def d68 : FDef := ⟨61, .seq (.reg [⟨some 2, .mv (.c (.sl none 0 0 true)), none⟩])
 (.seq (.seq (.reg [⟨some 6, .mv (.t 0), none⟩,
  ⟨some 7, .lenS (.t 6), none⟩,
  ⟨some 8, .bin .lss (.t 7) (.c (.i .i64 (.ofNat 2))), none⟩])
 (.cond (.t 8) (.seq (.reg [⟨some 9, .mv (.t 0), none⟩,
  ⟨some 2, .mv (.t 9), none⟩])
 (.ret))
 (.skip)))
 (.seq (.seq (.reg [⟨some 3, .mv (.c (.i .i64 (.ofNat 1))), none⟩])
 (.block 0 (.loop (.seq (.seq (.reg [⟨some 10, .mv (.t 3), none⟩,
  ⟨some 11, .mv (.t 0), none⟩,
  ⟨some 12, .lenS (.t 11), none⟩,
  ⟨some 13, .bin .lss (.t 10) (.t 12), none⟩])
 (.cond (.t 13) (.skip)
 (.exit 0)))
 (.seq (.block 1 (.seq (.dreg 0 [⟨⟨some 16, .mv (.t 0), none⟩, 0, [], [], 0⟩,
  ⟨⟨some 17, .mv (.t 3), none⟩, 0, [], [], 0⟩,
  ⟨⟨some 18, .iadS 1 (.t 16) (.t 17), none⟩, 0, [0, 1], [], 0⟩,
  ⟨⟨some 19, .ld false 1 (.t 18), none⟩, 1, [0, 1, 2], [], 0⟩,
  ⟨⟨some 20, .mv (.t 0), none⟩, 0, [], [], 0⟩,
  ⟨⟨some 21, .mv (.t 3), none⟩, 0, [], [], 0⟩,
  ⟨⟨some 22, .bin .sub (.t 21) (.c (.i .i64 (.ofNat 1))), none⟩, 0, [5], [], 0⟩,
  ⟨⟨some 23, .iadS 1 (.t 20) (.t 22), none⟩, 0, [4, 5, 6], [], 0⟩,
  ⟨⟨some 24, .ld false 1 (.t 23), none⟩, 1, [4, 5, 6, 7], [], 0⟩,
  ⟨⟨some 25, .bin .eql (.t 19) (.t 24), none⟩, 0, [0, 1, 2, 3, 4, 5, 6, 7, 8], [], 0⟩])
 (.cond (.t 25) (.seq (.reg [⟨some 26, .mv (.t 0), none⟩,
  ⟨some 27, .mv (.t 3), none⟩,
  ⟨some 28, .slcS 1 (.t 26) (some (.t 27)) none none, none⟩,
  ⟨some 4, .mv (.t 28), none⟩])
 (.seq (.seq (.reg [⟨some 5, .mv (.c (.i .i64 (.ofNat 1))), none⟩])
 (.block 2 (.loop (.seq (.seq (.reg [⟨some 29, .mv (.t 5), none⟩,
  ⟨some 30, .mv (.t 4), none⟩,
  ⟨some 31, .lenS (.t 30), none⟩,
  ⟨some 32, .bin .lss (.t 29) (.t 31), none⟩])
 (.cond (.t 32) (.skip)
 (.exit 2)))
 (.seq (.block 3 (.seq (.dreg 0 [⟨⟨some 35, .mv (.t 4), none⟩, 0, [], [], 0⟩,
  ⟨⟨some 36, .mv (.t 5), none⟩, 0, [], [], 0⟩,
  ⟨⟨some 37, .iadS 1 (.t 35) (.t 36), none⟩, 0, [0, 1], [], 0⟩,
  ⟨⟨some 38, .ld false 1 (.t 37), none⟩, 1, [0, 1, 2], [], 0⟩,
  ⟨⟨some 39, .mv (.t 4), none⟩, 0, [], [], 0⟩,
  ⟨⟨some 40, .mv (.t 5), none⟩, 0, [], [], 0⟩,
  ⟨⟨some 41, .bin .sub (.t 40) (.c (.i .i64 (.ofNat 1))), none⟩, 0, [5], [], 0⟩,
  ⟨⟨some 42, .iadS 1 (.t 39) (.t 41), none⟩, 0, [4, 5, 6], [], 0⟩,
  ⟨⟨some 43, .ld false 1 (.t 42), none⟩, 1, [4, 5, 6, 7], [], 0⟩,
  ⟨⟨some 44, .bin .neq (.t 38) (.t 43), none⟩, 0, [0, 1, 2, 3, 4, 5, 6, 7, 8], [], 0⟩])
 (.cond (.t 44) (.seq (.reg [⟨some 45, .mv (.t 0), none⟩,
  ⟨some 46, .mv (.t 3), none⟩,
  ⟨some 47, .mv (.t 4), none⟩,
  ⟨some 48, .mv (.t 5), none⟩,
  ⟨some 49, .iadS 1 (.t 47) (.t 48), none⟩,
  ⟨some 50, .ld false 1 (.t 49), none⟩,
  ⟨some 51, .iadS 1 (.t 45) (.t 46), none⟩,
  ⟨none, .st 1 (.t 51) (.t 50), none⟩])
 (.reg [⟨some 52, .mv (.t 3), none⟩,
  ⟨some 53, .bin .add (.t 52) (.c (.i .i64 (.ofNat 1))), none⟩,
  ⟨some 3, .mv (.t 53), none⟩]))
 (.skip))))
 (.reg [⟨some 33, .mv (.t 5), none⟩,
  ⟨some 34, .bin .add (.t 33) (.c (.i .i64 (.ofNat 1))), none⟩,
  ⟨some 5, .mv (.t 34), none⟩]))))))
 (.seq (.bad)
 (.seq (.reg [⟨some 57, .mv (.t 0), none⟩,
  ⟨some 58, .mv (.t 3), none⟩,
  ⟨some 59, .slcS 1 (.t 57) none (some (.t 58)) none, none⟩,
  ⟨some 2, .mv (.t 59), none⟩])
 (.ret)))))
 (.skip))))
 (.reg [⟨some 14, .mv (.t 3), none⟩,
  ⟨some 15, .bin .add (.t 14) (.c (.i .i64 (.ofNat 1))), none⟩,
  ⟨some 3, .mv (.t 15), none⟩]))))))
 (.seq (.reg [⟨some 60, .mv (.t 0), none⟩,
  ⟨some 2, .mv (.t 60), none⟩])
 (.ret)))), [.t 2]⟩
def d69 : FDef := ⟨4, .seq (.reg [⟨some 1, .box 3 1 (.t 0), none⟩,
  ⟨some 2, .mv (.c (.nf)), none⟩])
 (.seq (.reg [⟨some 3, .mkF (.func 108) [] [(.t 1)], none⟩,
  ⟨some 2, .mv (.t 3), none⟩])
 (.ret)), [.t 2]⟩
def d70 : FDef := ⟨8, .seq (.reg [⟨some 2, .box 86 37 (.t 0), none⟩,
  ⟨some 3, .mv (.c (.b false)), none⟩])
 (.seq (.reg [⟨some 4, .fad 0 (.t 2), none⟩,
  ⟨some 5, .ld false 1 (.t 4), none⟩,
  ⟨some 6, .ld false 1 (.t 1), none⟩,
  ⟨some 7, .bin .eql (.t 5) (.t 6), none⟩,
  ⟨some 3, .mv (.t 7), none⟩])
 (.ret)), [.t 3]⟩
def d71 : FDef := ⟨24, .seq (.reg [⟨some 4, .mv (.c (.i .i64 (.ofNat 0))), none⟩])
 (.seq (.reg [⟨some 5, .mv (.c (.i .i64 (.ofNat 0))), none⟩])
 (.seq (.seq (.reg [⟨some 8, .mv (.t 0), none⟩,
  ⟨some 9, .nilChk (.t 8), none⟩,
  ⟨some 10, .fad 1 (.t 9), none⟩,
  ⟨some 11, .ld false 1 (.t 10), none⟩,
  ⟨some 12, .lenS (.t 11), none⟩,
  ⟨some 13, .mv (.c (.i .i64 (.ofNat 0))), none⟩])
 (.block 0 (.loop (.seq (.reg [⟨some 14, .bin .lss (.t 13) (.t 12), none⟩])
 (.seq (.cond (.t 14) (.skip)
 (.exit 0))
 (.seq (.block 1 (.seq (.reg [⟨some 15, .iadS 8 (.t 11) (.t 13), none⟩,
  ⟨some 16, .ld true 8 (.t 15), none⟩,
  ⟨some 7, .new 133 8 [.i .i64 (.ofNat 0), .i .i64 (.ofNat 0), .i .i64 (.ofNat 0), .i .i64 (.ofNat 0), .i .i64 (.ofNat 0), .i .i64 (.ofNat 0), .sl none 0 0 true, .s []], none⟩,
  ⟨none, .st 8 (.t 7) (.t 16), none⟩])
 (.seq (.reg [⟨some 17, .mv (.t 1), none⟩,
  ⟨some 18, .ld true 8 (.t 7), none⟩,
  ⟨some 19, .callV (.t 17) [(.t 18)], none⟩])
 (.cond (.t 19) (.reg [⟨some 20, .mv (.t 5), none⟩,
  ⟨some 21, .bin .add (.t 20) (.c (.i .i64 (.ofNat 1))), none⟩,
  ⟨some 5, .mv (.t 21), none⟩])
 (.skip)))))
 (.reg [⟨some 22, .bin .add (.t 13) (.c (.i .i64 (.ofNat 1))), none⟩,
  ⟨some 13, .mv (.t 22), none⟩])))))))
 (.seq (.reg [⟨some 23, .mv (.t 5), none⟩,
  ⟨some 4, .mv (.t 23), none⟩])
 (.ret)))), [.t 4]⟩
def d72 : FDef := ⟨36, .seq (.reg [⟨some 1, .box 63 6 (.t 0), none⟩,
  ⟨some 2, .mv (.c (.b false)), none⟩])
 (.seq (.seq (.reg [⟨some 5, .ld true 6 (.t 1), none⟩,
  ⟨some 6, .call 50 [(.t 5)], none⟩,
  ⟨some 7, .mv (.c (.i .i64 (.ofNat 0))), none⟩])
 (.block 0 (.loop (.seq (.reg [⟨some 8, .bin .lss (.t 7) (.c (.i .i64 (.ofNat 6))), none⟩])
 (.seq (.cond (.t 8) (.skip)
 (.exit 0))
 (.seq (.block 1 (.seq (.reg [⟨some 9, .idxA 6 1 false (.t 6) (.t 7), none⟩,
  ⟨some 4, .mv (.t 9), none⟩])
 (.seq (.reg [⟨some 10, .mv (.t 4), none⟩,
  ⟨some 11, .bin .lss (.t 10) (.c (.i .i64 (.negSucc 2199023255551))), none⟩,
  ⟨some 12, .mv (.t 11), none⟩,
  ⟨some 13, .mv (.t 4), (some (12, false))⟩,
  ⟨some 14, .bin .gtr (.t 13) (.c (.i .i64 (.ofNat 2199023255552))), (some (12, false))⟩,
  ⟨some 15, .pick (.t 12) (.c (.b true)) (.t 14), none⟩])
 (.cond (.t 15) (.seq (.reg [⟨some 2, .mv (.c (.b false)), none⟩])
 (.ret))
 (.skip)))))
 (.reg [⟨some 16, .bin .add (.t 7) (.c (.i .i64 (.ofNat 1))), none⟩,
  ⟨some 7, .mv (.t 16), none⟩])))))))
 (.seq (.reg [⟨some 17, .fad 0 (.t 1), none⟩,
  ⟨some 18, .ld false 1 (.t 17), none⟩,
  ⟨some 19, .fad 1 (.t 1), none⟩,
  ⟨some 20, .ld false 1 (.t 19), none⟩,
  ⟨some 21, .bin .leq (.t 18) (.t 20), none⟩,
  ⟨some 22, .mv (.t 21), none⟩,
  ⟨some 23, .fad 2 (.t 1), (some (22, true))⟩,
  ⟨some 24, .ld false 1 (.t 23), (some (22, true))⟩,
  ⟨some 25, .fad 3 (.t 1), (some (22, true))⟩,
  ⟨some 26, .ld false 1 (.t 25), (some (22, true))⟩,
  ⟨some 27, .bin .leq (.t 24) (.t 26), (some (22, true))⟩,
  ⟨some 28, .pick (.t 22) (.t 27) (.c (.b false)), none⟩,
  ⟨some 29, .mv (.t 28), none⟩,
  ⟨some 30, .fad 4 (.t 1), (some (29, true))⟩,
  ⟨some 31, .ld false 1 (.t 30), (some (29, true))⟩,
  ⟨some 32, .fad 5 (.t 1), (some (29, true))⟩,
  ⟨some 33, .ld false 1 (.t 32), (some (29, true))⟩,
  ⟨some 34, .bin .leq (.t 31) (.t 33), (some (29, true))⟩,
  ⟨some 35, .pick (.t 29) (.t 34) (.c (.b false)), none⟩,
  ⟨some 2, .mv (.t 35), none⟩])
 (.ret))), [.t 2]⟩
def d73 : FDef := ⟨8, .seq (.reg [⟨some 2, .box 133 8 (.t 0), none⟩,
  ⟨some 3, .mv (.c (.b false)), none⟩])
 (.seq (.reg [⟨some 4, .fad 0 (.t 2), none⟩,
  ⟨some 5, .ld true 6 (.t 4), none⟩,
  ⟨some 6, .ld true 6 (.t 1), none⟩,
  ⟨some 7, .call 74 [(.t 5), (.t 6)], none⟩,
  ⟨some 3, .mv (.t 7), none⟩])
 (.ret)), [.t 3]⟩
def d74 : FDef := ⟨45, .seq (.reg [⟨some 2, .box 63 6 (.t 0), none⟩,
  ⟨some 3, .box 63 6 (.t 1), none⟩,
  ⟨some 4, .mv (.c (.b false)), none⟩])
 (.seq (.reg [⟨some 5, .fad 0 (.t 2), none⟩,
  ⟨some 6, .ld false 1 (.t 5), none⟩,
  ⟨some 7, .fad 1 (.t 3), none⟩,
  ⟨some 8, .ld false 1 (.t 7), none⟩,
  ⟨some 9, .bin .leq (.t 6) (.t 8), none⟩,
  ⟨some 10, .mv (.t 9), none⟩,
  ⟨some 11, .fad 0 (.t 3), (some (10, true))⟩,
  ⟨some 12, .ld false 1 (.t 11), (some (10, true))⟩,
  ⟨some 13, .fad 1 (.t 2), (some (10, true))⟩,
  ⟨some 14, .ld false 1 (.t 13), (some (10, true))⟩,
  ⟨some 15, .bin .leq (.t 12) (.t 14), (some (10, true))⟩,
  ⟨some 16, .pick (.t 10) (.t 15) (.c (.b false)), none⟩,
  ⟨some 17, .mv (.t 16), none⟩,
  ⟨some 18, .fad 2 (.t 2), (some (17, true))⟩,
  ⟨some 19, .ld false 1 (.t 18), (some (17, true))⟩,
  ⟨some 20, .fad 3 (.t 3), (some (17, true))⟩,
  ⟨some 21, .ld false 1 (.t 20), (some (17, true))⟩,
  ⟨some 22, .bin .leq (.t 19) (.t 21), (some (17, true))⟩,
  ⟨some 23, .pick (.t 17) (.t 22) (.c (.b false)), none⟩,
  ⟨some 24, .mv (.t 23), none⟩,
  ⟨some 25, .fad 2 (.t 3), (some (24, true))⟩,
  ⟨some 26, .ld false 1 (.t 25), (some (24, true))⟩,
  ⟨some 27, .fad 3 (.t 2), (some (24, true))⟩,
  ⟨some 28, .ld false 1 (.t 27), (some (24, true))⟩,
  ⟨some 29, .bin .leq (.t 26) (.t 28), (some (24, true))⟩,
  ⟨some 30, .pick (.t 24) (.t 29) (.c (.b false)), none⟩,
  ⟨some 31, .mv (.t 30), none⟩,
  ⟨some 32, .fad 4 (.t 2), (some (31, true))⟩,
  ⟨some 33, .ld false 1 (.t 32), (some (31, true))⟩,
  ⟨some 34, .fad 5 (.t 3), (some (31, true))⟩,
  ⟨some 35, .ld false 1 (.t 34), (some (31, true))⟩,
  ⟨some 36, .bin .leq (.t 33) (.t 35), (some (31, true))⟩,
  ⟨some 37, .pick (.t 31) (.t 36) (.c (.b false)), none⟩,
  ⟨some 38, .mv (.t 37), none⟩,
  ⟨some 39, .fad 4 (.t 3), (some (38, true))⟩,
  ⟨some 40, .ld false 1 (.t 39), (some (38, true))⟩,
  ⟨some 41, .fad 5 (.t 2), (some (38, true))⟩,
  ⟨some 42, .ld false 1 (.t 41), (some (38, true))⟩,
  ⟨some 43, .bin .leq (.t 40) (.t 42), (some (38, true))⟩,
  ⟨some 44, .pick (.t 38) (.t 43) (.c (.b false)), none⟩,
  ⟨some 4, .mv (.t 44), none⟩])
 (.ret)), [.t 4]⟩
def d75 : FDef := ⟨14, .seq (.reg [⟨some 2, .box 86 37 (.t 0), none⟩,
  ⟨some 3, .mv (.c (.b false)), none⟩])
 (.seq (.reg [⟨some 7, .ld true 37 (.t 2), none⟩,
  ⟨some 8, .call 38 [(.t 7)], none⟩,
  ⟨some 6, .mv (.t 8), none⟩,
  ⟨some 9, .ext 0 (.t 6), none⟩,
  ⟨some 10, .ext 1 (.t 6), none⟩,
  ⟨some 4, .new 63 6 [.i .i64 (.ofNat 0), .i .i64 (.ofNat 0), .i .i64 (.ofNat 0), .i .i64 (.ofNat 0), .i .i64 (.ofNat 0), .i .i64 (.ofNat 0)], none⟩,
  ⟨none, .st 6 (.t 4) (.t 9), none⟩,
  ⟨some 5, .mv (.t 10), none⟩])
 (.seq (.reg [⟨some 11, .ld true 6 (.t 4), none⟩,
  ⟨some 12, .ld true 6 (.t 1), none⟩,
  ⟨some 13, .call 74 [(.t 11), (.t 12)], none⟩,
  ⟨some 3, .mv (.t 13), none⟩])
 (.ret))), [.t 3]⟩
def d76 : FDef := ⟨36, .seq (.reg [⟨some 2, .box 63 6 (.t 0), none⟩,
  ⟨some 3, .box 63 6 (.t 1), none⟩,
  ⟨some 4, .new 63 6 [.i .i64 (.ofNat 0), .i .i64 (.ofNat 0), .i .i64 (.ofNat 0), .i .i64 (.ofNat 0), .i .i64 (.ofNat 0), .i .i64 (.ofNat 0)], none⟩])
 (.seq (.reg [⟨some 5, .fad 0 (.t 2), none⟩,
  ⟨some 6, .ld false 1 (.t 5), none⟩,
  ⟨some 7, .fad 0 (.t 3), none⟩,
  ⟨some 8, .ld false 1 (.t 7), none⟩,
  ⟨some 9, .mnmx false (.t 6) (.t 8), none⟩,
  ⟨some 10, .fad 1 (.t 2), none⟩,
  ⟨some 11, .ld false 1 (.t 10), none⟩,
  ⟨some 12, .fad 1 (.t 3), none⟩,
  ⟨some 13, .ld false 1 (.t 12), none⟩,
  ⟨some 14, .mnmx true (.t 11) (.t 13), none⟩,
  ⟨some 15, .fad 2 (.t 2), none⟩,
  ⟨some 16, .ld false 1 (.t 15), none⟩,
  ⟨some 17, .fad 2 (.t 3), none⟩,
  ⟨some 18, .ld false 1 (.t 17), none⟩,
  ⟨some 19, .mnmx false (.t 16) (.t 18), none⟩,
  ⟨some 20, .fad 3 (.t 2), none⟩,
  ⟨some 21, .ld false 1 (.t 20), none⟩,
  ⟨some 22, .fad 3 (.t 3), none⟩,
  ⟨some 23, .ld false 1 (.t 22), none⟩,
  ⟨some 24, .mnmx true (.t 21) (.t 23), none⟩,
  ⟨some 25, .fad 4 (.t 2), none⟩,
  ⟨some 26, .ld false 1 (.t 25), none⟩,
  ⟨some 27, .fad 4 (.t 3), none⟩,
  ⟨some 28, .ld false 1 (.t 27), none⟩,
  ⟨some 29, .mnmx false (.t 26) (.t 28), none⟩,
  ⟨some 30, .fad 5 (.t 2), none⟩,
  ⟨some 31, .ld false 1 (.t 30), none⟩,
  ⟨some 32, .fad 5 (.t 3), none⟩,
  ⟨some 33, .ld false 1 (.t 32), none⟩,
  ⟨some 34, .mnmx true (.t 31) (.t 33), none⟩,
  ⟨some 35, .build [.i .i64 (.ofNat 0), .i .i64 (.ofNat 0), .i .i64 (.ofNat 0), .i .i64 (.ofNat 0), .i .i64 (.ofNat 0), .i .i64 (.ofNat 0)] [(0, 1, (.t 9)), (1, 1, (.t 14)), (2, 1, (.t 19)), (3, 1, (.t 24)), (4, 1, (.t 29)), (5, 1, (.t 34))], none⟩,
  ⟨none, .st 6 (.t 4) (.t 35), none⟩])
 (.ret)), [.cell true 6 4]⟩
def d77 : FDef := ⟨36, .seq (.reg [⟨some 2, .box 63 6 (.t 0), none⟩,
  ⟨some 3, .box 63 6 (.t 1), none⟩,
  ⟨some 4, .new 63 6 [.i .i64 (.ofNat 0), .i .i64 (.ofNat 0), .i .i64 (.ofNat 0), .i .i64 (.ofNat 0), .i .i64 (.ofNat 0), .i .i64 (.ofNat 0)], none⟩])
 (.seq (.reg [⟨some 5, .fad 0 (.t 2), none⟩,
  ⟨some 6, .ld false 1 (.t 5), none⟩,
  ⟨some 7, .fad 0 (.t 3), none⟩,
  ⟨some 8, .ld false 1 (.t 7), none⟩,
  ⟨some 9, .mnmx false (.t 6) (.t 8), none⟩,
  ⟨some 10, .fad 1 (.t 2), none⟩,
  ⟨some 11, .ld false 1 (.t 10), none⟩,
  ⟨some 12, .fad 1 (.t 3), none⟩,
  ⟨some 13, .ld false 1 (.t 12), none⟩,
  ⟨some 14, .mnmx true (.t 11) (.t 13), none⟩,
  ⟨some 15, .fad 2 (.t 2), none⟩,
  ⟨some 16, .ld false 1 (.t 15), none⟩,
  ⟨some 17, .fad 2 (.t 3), none⟩,
  ⟨some 18, .ld false 1 (.t 17), none⟩,
  ⟨some 19, .mnmx false (.t 16) (.t 18), none⟩,
  ⟨some 20, .fad 3 (.t 2), none⟩,
  ⟨some 21, .ld false 1 (.t 20), none⟩,
  ⟨some 22, .fad 3 (.t 3), none⟩,
  ⟨some 23, .ld false 1 (.t 22), none⟩,
  ⟨some 24, .mnmx true (.t 21) (.t 23), none⟩,
  ⟨some 25, .fad 4 (.t 2), none⟩,
  ⟨some 26, .ld false 1 (.t 25), none⟩,
  ⟨some 27, .fad 4 (.t 3), none⟩,
  ⟨some 28, .ld false 1 (.t 27), none⟩,
  ⟨some 29, .mnmx false (.t 26) (.t 28), none⟩,
  ⟨some 30, .fad 5 (.t 2), none⟩,
  ⟨some 31, .ld false 1 (.t 30), none⟩,
  ⟨some 32, .fad 5 (.t 3), none⟩,
  ⟨some 33, .ld false 1 (.t 32), none⟩,
  ⟨some 34, .mnmx true (.t 31) (.t 33), none⟩,
  ⟨some 35, .build [.i .i64 (.ofNat 0), .i .i64 (.ofNat 0), .i .i64 (.ofNat 0), .i .i64 (.ofNat 0), .i .i64 (.ofNat 0), .i .i64 (.ofNat 0)] [(0, 1, (.t 9)), (1, 1, (.t 14)), (2, 1, (.t 19)), (3, 1, (.t 24)), (4, 1, (.t 29)), (5, 1, (.t 34))], none⟩,
  ⟨none, .st 6 (.t 4) (.t 35), none⟩])
 (.ret)), [.cell true 6 4]⟩
def d78 : FDef := ⟨49, .seq (.reg [⟨some 1, .box 63 6 (.t 0), none⟩,
  ⟨some 2, .mv (.c (.i .i64 (.ofNat 0))), none⟩])
 (.seq (.seq (.reg [⟨some 5, .fad 0 (.t 1), none⟩,
  ⟨some 6, .ld false 1 (.t 5), none⟩,
  ⟨some 7, .fad 1 (.t 1), none⟩,
  ⟨some 8, .ld false 1 (.t 7), none⟩,
  ⟨some 9, .fad 2 (.t 1), none⟩,
  ⟨some 10, .ld false 1 (.t 9), none⟩,
  ⟨some 11, .fad 3 (.t 1), none⟩,
  ⟨some 12, .ld false 1 (.t 11), none⟩,
  ⟨some 13, .fad 4 (.t 1), none⟩,
  ⟨some 14, .ld false 1 (.t 13), none⟩,
  ⟨some 15, .fad 5 (.t 1), none⟩,
  ⟨some 16, .ld false 1 (.t 15), none⟩,
  ⟨some 17, .buildS 3 1 6 [.i .i64 (.ofNat 0)] [(0, 1, (.t 6)), (1, 1, (.t 8)), (2, 1, (.t 10)), (3, 1, (.t 12)), (4, 1, (.t 14)), (5, 1, (.t 16))], none⟩,
  ⟨some 18, .lenS (.t 17), none⟩,
  ⟨some 19, .mv (.c (.i .i64 (.ofNat 0))), none⟩])
 (.block 0 (.loop (.seq (.reg [⟨some 20, .bin .lss (.t 19) (.t 18), none⟩])
 (.seq (.cond (.t 20) (.skip)
 (.exit 0))
 (.seq (.block 1 (.seq (.reg [⟨some 21, .iadS 1 (.t 17) (.t 19), none⟩,
  ⟨some 22, .ld false 1 (.t 21), none⟩,
  ⟨some 4, .mv (.t 22), none⟩])
 (.seq (.reg [⟨some 23, .mv (.t 4), none⟩,
  ⟨some 24, .bin .lss (.t 23) (.c (.i .i64 (.negSucc 2199023255551))), none⟩,
  ⟨some 25, .mv (.t 24), none⟩,
  ⟨some 26, .mv (.t 4), (some (25, false))⟩,
  ⟨some 27, .bin .gtr (.t 26) (.c (.i .i64 (.ofNat 2199023255552))), (some (25, false))⟩,
  ⟨some 28, .pick (.t 25) (.c (.b true)) (.t 27), none⟩])
 (.cond (.t 28) (.seq (.reg [⟨some 2, .mv (.c (.i .i64 (.ofNat 2))), none⟩])
 (.ret))
 (.skip)))))
 (.reg [⟨some 29, .bin .add (.t 19) (.c (.i .i64 (.ofNat 1))), none⟩,
  ⟨some 19, .mv (.t 29), none⟩])))))))
 (.seq (.seq (.reg [⟨some 30, .fad 0 (.t 1), none⟩,
  ⟨some 31, .ld false 1 (.t 30), none⟩,
  ⟨some 32, .fad 1 (.t 1), none⟩,
  ⟨some 33, .ld false 1 (.t 32), none⟩,
  ⟨some 34, .bin .gtr (.t 31) (.t 33), none⟩,
  ⟨some 35, .mv (.t 34), none⟩,
  ⟨some 36, .fad 2 (.t 1), (some (35, false))⟩,
  ⟨some 37, .ld false 1 (.t 36), (some (35, false))⟩,
  ⟨some 38, .fad 3 (.t 1), (some (35, false))⟩,
  ⟨some 39, .ld false 1 (.t 38), (some (35, false))⟩,
  ⟨some 40, .bin .gtr (.t 37) (.t 39), (some (35, false))⟩,
  ⟨some 41, .pick (.t 35) (.c (.b true)) (.t 40), none⟩,
  ⟨some 42, .mv (.t 41), none⟩,
  ⟨some 43, .fad 4 (.t 1), (some (42, false))⟩,
  ⟨some 44, .ld false 1 (.t 43), (some (42, false))⟩,
  ⟨some 45, .fad 5 (.t 1), (some (42, false))⟩,
  ⟨some 46, .ld false 1 (.t 45), (some (42, false))⟩,
  ⟨some 47, .bin .gtr (.t 44) (.t 46), (some (42, false))⟩,
  ⟨some 48, .pick (.t 42) (.c (.b true)) (.t 47), none⟩])
 (.cond (.t 48) (.seq (.reg [⟨some 2, .mv (.c (.i .i64 (.ofNat 7))), none⟩])
 (.ret))
 (.skip)))
 (.seq (.reg [⟨some 2, .mv (.c (.i .i64 (.ofNat 0))), none⟩])
 (.ret)))), [.t 2]⟩
def d79 : FDef := ⟨45, .seq (.reg [⟨some 2, .box 63 6 (.t 0), none⟩,
  ⟨some 3, .box 63 6 (.t 1), none⟩,
  ⟨some 4, .mv (.c (.b false)), none⟩])
 (.seq (.reg [⟨some 5, .fad 0 (.t 2), none⟩,
  ⟨some 6, .ld false 1 (.t 5), none⟩,
  ⟨some 7, .fad 1 (.t 3), none⟩,
  ⟨some 8, .ld false 1 (.t 7), none⟩,
  ⟨some 9, .bin .leq (.t 6) (.t 8), none⟩,
  ⟨some 10, .mv (.t 9), none⟩,
  ⟨some 11, .fad 0 (.t 3), (some (10, true))⟩,
  ⟨some 12, .ld false 1 (.t 11), (some (10, true))⟩,
  ⟨some 13, .fad 1 (.t 2), (some (10, true))⟩,
  ⟨some 14, .ld false 1 (.t 13), (some (10, true))⟩,
  ⟨some 15, .bin .leq (.t 12) (.t 14), (some (10, true))⟩,
  ⟨some 16, .pick (.t 10) (.t 15) (.c (.b false)), none⟩,
  ⟨some 17, .mv (.t 16), none⟩,
  ⟨some 18, .fad 2 (.t 2), (some (17, true))⟩,
  ⟨some 19, .ld false 1 (.t 18), (some (17, true))⟩,
  ⟨some 20, .fad 3 (.t 3), (some (17, true))⟩,
  ⟨some 21, .ld false 1 (.t 20), (some (17, true))⟩,
  ⟨some 22, .bin .leq (.t 19) (.t 21), (some (17, true))⟩,
  ⟨some 23, .pick (.t 17) (.t 22) (.c (.b false)), none⟩,
  ⟨some 24, .mv (.t 23), none⟩,
  ⟨some 25, .fad 2 (.t 3), (some (24, true))⟩,
  ⟨some 26, .ld false 1 (.t 25), (some (24, true))⟩,
  ⟨some 27, .fad 3 (.t 2), (some (24, true))⟩,
  ⟨some 28, .ld false 1 (.t 27), (some (24, true))⟩,
  ⟨some 29, .bin .leq (.t 26) (.t 28), (some (24, true))⟩,
  ⟨some 30, .pick (.t 24) (.t 29) (.c (.b false)), none⟩,
  ⟨some 31, .mv (.t 30), none⟩,
  ⟨some 32, .fad 4 (.t 2), (some (31, true))⟩,
  ⟨some 33, .ld false 1 (.t 32), (some (31, true))⟩,
  ⟨some 34, .fad 5 (.t 3), (some (31, true))⟩,
  ⟨some 35, .ld false 1 (.t 34), (some (31, true))⟩,
  ⟨some 36, .bin .leq (.t 33) (.t 35), (some (31, true))⟩,
  ⟨some 37, .pick (.t 31) (.t 36) (.c (.b false)), none⟩,
  ⟨some 38, .mv (.t 37), none⟩,
  ⟨some 39, .fad 4 (.t 3), (some (38, true))⟩,
  ⟨some 40, .ld false 1 (.t 39), (some (38, true))⟩,
  ⟨some 41, .fad 5 (.t 2), (some (38, true))⟩,
  ⟨some 42, .ld false 1 (.t 41), (some (38, true))⟩,
  ⟨some 43, .bin .leq (.t 40) (.t 42), (some (38, true))⟩,
  ⟨some 44, .pick (.t 38) (.t 43) (.c (.b false)), none⟩,
  ⟨some 4, .mv (.t 44), none⟩])
 (.ret)), [.t 4]⟩
def d80 : FDef := ⟨8, .seq (.reg [⟨some 2, .box 133 8 (.t 0), none⟩,
  ⟨some 3, .mv (.c (.b false)), none⟩])
 (.seq (.reg [⟨some 4, .fad 0 (.t 2), none⟩,
  ⟨some 5, .ld true 6 (.t 4), none⟩,
  ⟨some 6, .ld true 6 (.t 1), none⟩,
  ⟨some 7, .call 74 [(.t 5), (.t 6)], none⟩,
  ⟨some 3, .mv (.t 7), none⟩])
 (.ret)), [.t 3]⟩
def d81 : FDef := ⟨6, .seq (.reg [⟨some 2, .new 78 9 [.b false, .s [], .b false, .s [], .b false, .s [], .b false, .s [], .b false], none⟩])
 (.seq (.reg [⟨some 3, .mv (.t 0), none⟩,
  ⟨some 4, .call 43 [(.t 3)], none⟩,
  ⟨some 5, .build [.b false, .s [], .b false, .s [], .b false, .s [], .b false, .s [], .b false] [(0, 4, (.t 4))], none⟩,
  ⟨none, .st 9 (.t 2) (.t 5), none⟩])
 (.ret)), [.cell true 9 2]⟩
def d82 : FDef := ⟨33, .seq (.reg [⟨some 2, .box 76 4 (.t 0), none⟩,
  ⟨some 3, .box 76 4 (.t 1), none⟩,
  ⟨some 4, .new 74 2 [.b false, .s []], none⟩,
  ⟨some 5, .new 74 2 [.b false, .s []], none⟩,
  ⟨some 6, .new 74 2 [.b false, .s []], none⟩])
 (.seq (.seq (.reg [⟨some 7, .fad 2 (.t 2), none⟩,
  ⟨some 8, .ld true 2 (.t 7), none⟩,
  ⟨some 9, .fad 2 (.t 3), none⟩,
  ⟨some 10, .ld true 2 (.t 9), none⟩,
  ⟨some 11, .eqC false [.b, .s] (.t 8) (.t 10), none⟩])
 (.cond (.t 11) (.seq (.dreg 0 [⟨⟨some 12, .fad 0 (.t 2), none⟩, 0, [], [], 0⟩,
  ⟨⟨some 13, .ld true 2 (.t 12), none⟩, 1, [0], [], 0⟩,
  ⟨⟨some 14, .fad 0 (.t 3), none⟩, 0, [], [], 0⟩,
  ⟨⟨some 15, .ld true 2 (.t 14), none⟩, 1, [2], [], 0⟩,
  ⟨⟨some 16, .ld true 4 (.t 2), none⟩, 1, [], [], 0⟩,
  ⟨⟨some 17, .call 87 [(.t 16)], none⟩, 2, [4], [], 0⟩,
  ⟨⟨none, .st 2 (.t 4) (.t 13), none⟩, 2, [0, 1, 4, 5], [], 0⟩,
  ⟨⟨none, .st 2 (.t 5) (.t 15), none⟩, 2, [0, 1, 2, 3, 4, 5, 6], [], 0⟩,
  ⟨⟨none, .st 2 (.t 6) (.t 17), none⟩, 2, [0, 1, 2, 3, 4, 5, 6, 7], [], 0⟩])
 (.ret))
 (.skip)))
 (.seq (.dreg 0 [⟨⟨some 18, .fad 0 (.t 2), none⟩, 0, [], [], 0⟩,
  ⟨⟨some 19, .ld true 2 (.t 18), none⟩, 1, [0], [], 0⟩,
  ⟨⟨some 20, .ld true 4 (.t 3), none⟩, 1, [], [], 0⟩,
  ⟨⟨some 21, .call 87 [(.t 20)], none⟩, 2, [2], [], 0⟩,
  ⟨⟨some 22, .call 86 [(.t 19), (.t 21)], none⟩, 2, [0, 1, 2, 3], [], 0⟩,
  ⟨⟨some 23, .fad 0 (.t 3), none⟩, 0, [], [], 0⟩,
  ⟨⟨some 24, .ld true 2 (.t 23), none⟩, 1, [5], [], 0⟩,
  ⟨⟨some 25, .ld true 4 (.t 2), none⟩, 1, [], [], 0⟩,
  ⟨⟨some 26, .call 87 [(.t 25)], none⟩, 2, [0, 1, 2, 3, 4, 7], [], 0⟩,
  ⟨⟨some 27, .call 86 [(.t 24), (.t 26)], none⟩, 2, [0, 1, 2, 3, 4, 5, 6, 7, 8], [], 0⟩,
  ⟨⟨some 28, .ld true 4 (.t 2), none⟩, 1, [], [], 0⟩,
  ⟨⟨some 29, .call 87 [(.t 28)], none⟩, 2, [0, 1, 2, 3, 4, 5, 6, 7, 8, 9, 10], [], 0⟩,
  ⟨⟨some 30, .ld true 4 (.t 3), none⟩, 1, [], [], 0⟩,
  ⟨⟨some 31, .call 87 [(.t 30)], none⟩, 2, [0, 1, 2, 3, 4, 5, 6, 7, 8, 9, 10, 11, 12], [], 0⟩,
  ⟨⟨some 32, .call 86 [(.t 29), (.t 31)], none⟩, 2, [0, 1, 2, 3, 4, 5, 6, 7, 8, 9, 10, 11, 12, 13], [], 0⟩,
  ⟨⟨none, .st 2 (.t 4) (.t 22), none⟩, 2, [0, 1, 2, 3, 4, 5, 6, 7, 8, 9, 10, 11, 12, 13, 14], [], 0⟩,
  ⟨⟨none, .st 2 (.t 5) (.t 27), none⟩, 2, [0, 1, 2, 3, 4, 5, 6, 7, 8, 9, 10, 11, 12, 13, 14, 15], [], 0⟩,
  ⟨⟨none, .st 2 (.t 6) (.t 32), none⟩, 2, [0, 1, 2, 3, 4, 5, 6, 7, 8, 9, 10, 11, 12, 13, 14, 15, 16], [], 0⟩])
 (.ret))), [.cell true 2 4, .cell true 2 5, .cell true 2 6]⟩
def d83 : FDef := ⟨29, .seq (.reg [⟨some 2, .box 74 2 (.t 0), none⟩,
  ⟨some 3, .box 74 2 (.t 1), none⟩,
  ⟨some 4, .new 76 4 [.b false, .s [], .b false, .s []], none⟩])
 (.seq (.seq (.reg [⟨some 6, .ld true 2 (.t 3), none⟩,
  ⟨some 7, .call 110 [(.t 6)], none⟩,
  ⟨some 8, .bin .lss (.t 7) (.c (.i .i64 (.ofNat 0))), none⟩])
 (.cond (.t 8) (.dreg 0 [⟨⟨some 9, .ld true 2 (.t 2), none⟩, 1, [], [], 0⟩,
  ⟨⟨some 10, .call 111 [(.t 9)], none⟩, 2, [0], [], 0⟩,
  ⟨⟨some 11, .ld true 2 (.t 3), none⟩, 1, [], [], 0⟩,
  ⟨⟨some 12, .call 111 [(.t 11)], none⟩, 2, [0, 1, 2], [], 0⟩,
  ⟨⟨none, .st 2 (.t 2) (.t 10), none⟩, 2, [0, 1, 2, 3], [], 0⟩,
  ⟨⟨none, .st 2 (.t 3) (.t 12), none⟩, 2, [0, 1, 2, 3, 4], [], 0⟩])
 (.skip)))
 (.seq (.reg [⟨some 13, .ld true 2 (.t 2), none⟩,
  ⟨some 14, .ld true 2 (.t 3), none⟩,
  ⟨some 15, .call 112 [(.t 13), (.t 14)], none⟩,
  ⟨some 5, .new 74 2 [.b false, .s []], none⟩,
  ⟨none, .st 2 (.t 5) (.t 15), none⟩])
 (.seq (.dreg 0 [⟨⟨some 16, .ld true 2 (.t 2), none⟩, 1, [], [], 0⟩,
  ⟨⟨some 17, .ld true 2 (.t 5), none⟩, 1, [], [], 0⟩,
  ⟨⟨some 18, .call 113 [(.t 16), (.t 17)], none⟩, 2, [0, 1], [], 0⟩,
  ⟨⟨some 19, .ld true 2 (.t 3), none⟩, 1, [], [], 0⟩,
  ⟨⟨some 20, .ld true 2 (.t 5), none⟩, 1, [], [], 0⟩,
  ⟨⟨some 21, .call 113 [(.t 19), (.t 20)], none⟩, 2, [0, 1, 2, 3, 4], [], 0⟩,
  ⟨⟨none, .st 2 (.t 2) (.t 18), none⟩, 2, [0, 1, 2, 3, 4, 5], [], 0⟩,
  ⟨⟨none, .st 2 (.t 3) (.t 21), none⟩, 2, [0, 1, 2, 3, 4, 5, 6], [], 0⟩])
 (.seq (.seq (.dreg 0 [⟨⟨some 22, .ld true 2 (.t 3), none⟩, 1, [], [], 0⟩,
  ⟨⟨some 23, .call 114 [], none⟩, 2, [], [], 0⟩,
  ⟨⟨some 24, .eqC false [.b, .s] (.t 22) (.t 23), none⟩, 0, [0, 1], [], 0⟩])
 (.cond (.t 24) (.reg [⟨some 25, .build [.b false, .s []] [], none⟩,
  ⟨none, .st 2 (.t 3) (.t 25), none⟩])
 (.skip)))
 (.seq (.reg [⟨some 26, .ld true 2 (.t 2), none⟩,
  ⟨some 27, .ld true 2 (.t 3), none⟩,
  ⟨some 28, .build [.b false, .s [], .b false, .s []] [(0, 2, (.t 26)), (2, 2, (.t 27))], none⟩,
  ⟨none, .st 4 (.t 4) (.t 28), none⟩])
 (.ret)))))), [.cell true 4 4]⟩
def d84 : FDef := ⟨42, .seq (.reg [⟨some 2, .box 74 2 (.t 0), none⟩,
  ⟨some 3, .box 74 2 (.t 1), none⟩,
  ⟨some 4, .new 74 2 [.b false, .s []], none⟩])
 (.seq (.block 0 (.seq (.reg [⟨some 6, .fad 0 (.t 2), none⟩,
  ⟨some 7, .ld false 1 (.t 6), none⟩,
  ⟨some 8, .fad 0 (.t 3), none⟩,
  ⟨some 9, .ld false 1 (.t 8), none⟩,
  ⟨some 10, .eqB false (.t 7) (.t 9), none⟩,
  ⟨some 5, .mv (.t 10), none⟩])
 (.cond (.t 5) (.seq (.dreg 0 [⟨⟨some 11, .fad 0 (.t 2), none⟩, 0, [], [], 0⟩,
  ⟨⟨some 12, .ld false 1 (.t 11), none⟩, 1, [0], [], 0⟩,
  ⟨⟨some 13, .fad 1 (.t 2), none⟩, 0, [], [], 0⟩,
  ⟨⟨some 14, .ld false 1 (.t 13), none⟩, 1, [2], [], 0⟩,
  ⟨⟨some 15, .fad 1 (.t 3), none⟩, 0, [], [], 0⟩,
  ⟨⟨some 16, .ld false 1 (.t 15), none⟩, 1, [4], [], 0⟩,
  ⟨⟨some 17, .call 116 [(.t 14), (.t 16)], none⟩, 2, [2, 3, 4, 5], [], 0⟩,
  ⟨⟨some 18, .call 115 [(.t 12), (.t 17)], none⟩, 2, [0, 1, 2, 3, 4, 5, 6], [], 0⟩,
  ⟨⟨none, .st 2 (.t 4) (.t 18), none⟩, 2, [0, 1, 2, 3, 4, 5, 6, 7], [], 0⟩])
 (.ret))
 (.seq (.reg [⟨some 20, .fad 1 (.t 2), none⟩,
  ⟨some 21, .ld false 1 (.t 20), none⟩,
  ⟨some 22, .fad 1 (.t 3), none⟩,
  ⟨some 23, .ld false 1 (.t 22), none⟩,
  ⟨some 24, .call 117 [(.t 21), (.t 23)], none⟩,
  ⟨some 25, .bin .geq (.t 24) (.c (.i .i64 (.ofNat 0))), none⟩,
  ⟨some 19, .mv (.t 25), none⟩])
 (.cond (.t 19) (.seq (.dreg 0 [⟨⟨some 26, .fad 0 (.t 2), none⟩, 0, [], [], 0⟩,
  ⟨⟨some 27, .ld false 1 (.t 26), none⟩, 1, [0], [], 0⟩,
  ⟨⟨some 28, .fad 1 (.t 2), none⟩, 0, [], [], 0⟩,
  ⟨⟨some 29, .ld false 1 (.t 28), none⟩, 1, [2], [], 0⟩,
  ⟨⟨some 30, .fad 1 (.t 3), none⟩, 0, [], [], 0⟩,
  ⟨⟨some 31, .ld false 1 (.t 30), none⟩, 1, [4], [], 0⟩,
  ⟨⟨some 32, .call 118 [(.t 29), (.t 31)], none⟩, 2, [2, 3, 4, 5], [], 0⟩,
  ⟨⟨some 33, .call 115 [(.t 27), (.t 32)], none⟩, 2, [0, 1, 2, 3, 4, 5, 6], [], 0⟩,
  ⟨⟨none, .st 2 (.t 4) (.t 33), none⟩, 2, [0, 1, 2, 3, 4, 5, 6, 7], [], 0⟩])
 (.ret))
 (.skip))))))
 (.seq (.dreg 0 [⟨⟨some 34, .fad 0 (.t 3), none⟩, 0, [], [], 0⟩,
  ⟨⟨some 35, .ld false 1 (.t 34), none⟩, 1, [0], [], 0⟩,
  ⟨⟨some 36, .fad 1 (.t 3), none⟩, 0, [], [], 0⟩,
  ⟨⟨some 37, .ld false 1 (.t 36), none⟩, 1, [2], [], 0⟩,
  ⟨⟨some 38, .fad 1 (.t 2), none⟩, 0, [], [], 0⟩,
  ⟨⟨some 39, .ld false 1 (.t 38), none⟩, 1, [4], [], 0⟩,
  ⟨⟨some 40, .call 118 [(.t 37), (.t 39)], none⟩, 2, [2, 3, 4, 5], [], 0⟩,
  ⟨⟨some 41, .call 115 [(.t 35), (.t 40)], none⟩, 2, [0, 1, 2, 3, 4, 5, 6], [], 0⟩,
  ⟨⟨none, .st 2 (.t 4) (.t 41), none⟩, 2, [0, 1, 2, 3, 4, 5, 6, 7], [], 0⟩])
 (.ret))), [.cell true 2 4]⟩
def d85 : FDef := ⟨15, .seq (.reg [⟨some 2, .new 74 2 [.b false, .s []], none⟩])
 (.seq (.reg [⟨some 4, .mv (.t 0), none⟩,
  ⟨some 5, .conv .u64 (.t 4), none⟩,
  ⟨some 3, .mv (.t 5), none⟩])
 (.seq (.seq (.reg [⟨some 6, .mv (.t 0), none⟩,
  ⟨some 7, .bin .lss (.t 6) (.c (.i .i64 (.ofNat 0))), none⟩])
 (.cond (.t 7) (.reg [⟨some 8, .mv (.t 3), none⟩,
  ⟨some 9, .un .neg (.t 8), none⟩,
  ⟨some 3, .mv (.t 9), none⟩])
 (.skip)))
 (.seq (.reg [⟨some 10, .mv (.t 0), none⟩,
  ⟨some 11, .bin .lss (.t 10) (.c (.i .i64 (.ofNat 0))), none⟩,
  ⟨some 12, .mv (.t 3), none⟩,
  ⟨some 13, .call 119 [(.t 12)], none⟩,
  ⟨some 14, .call 115 [(.t 11), (.t 13)], none⟩,
  ⟨none, .st 2 (.t 2) (.t 14), none⟩])
 (.ret)))), [.cell true 2 2]⟩
def d86 : FDef := ⟨16, .seq (.reg [⟨some 2, .box 74 2 (.t 0), none⟩,
  ⟨some 3, .box 74 2 (.t 1), none⟩,
  ⟨some 4, .new 74 2 [.b false, .s []], none⟩])
 (.seq (.dreg 0 [⟨⟨some 5, .fad 0 (.t 2), none⟩, 0, [], [], 0⟩,
  ⟨⟨some 6, .ld false 1 (.t 5), none⟩, 1, [0], [], 0⟩,
  ⟨⟨some 7, .fad 0 (.t 3), none⟩, 0, [], [], 0⟩,
  ⟨⟨some 8, .ld false 1 (.t 7), none⟩, 1, [2], [], 0⟩,
  ⟨⟨some 9, .eqB true (.t 6) (.t 8), none⟩, 0, [0, 1, 2, 3], [], 0⟩,
  ⟨⟨some 10, .fad 1 (.t 2), none⟩, 0, [], [], 0⟩,
  ⟨⟨some 11, .ld false 1 (.t 10), none⟩, 1, [5], [], 0⟩,
  ⟨⟨some 12, .fad 1 (.t 3), none⟩, 0, [], [], 0⟩,
  ⟨⟨some 13, .ld false 1 (.t 12), none⟩, 1, [7], [], 0⟩,
  ⟨⟨some 14, .call 120 [(.t 11), (.t 13)], none⟩, 2, [5, 6, 7, 8], [], 0⟩,
  ⟨⟨some 15, .call 115 [(.t 9), (.t 14)], none⟩, 2, [0, 1, 2, 3, 4, 5, 6, 7, 8, 9], [], 0⟩,
  ⟨⟨none, .st 2 (.t 4) (.t 15), none⟩, 2, [0, 1, 2, 3, 4, 5, 6, 7, 8, 9, 10], [], 0⟩])
 (.ret)), [.cell true 2 4]⟩
def d87 : FDef := ⟨10, .seq (.reg [⟨some 1, .box 76 4 (.t 0), none⟩,
  ⟨some 2, .new 74 2 [.b false, .s []], none⟩])
 (.seq (.seq (.reg [⟨some 3, .fad 2 (.t 1), none⟩,
  ⟨some 4, .ld true 2 (.t 3), none⟩,
  ⟨some 5, .build [.b false, .s []] [], none⟩,
  ⟨some 6, .eqC false [.b, .s] (.t 4) (.t 5), none⟩])
 (.cond (.t 6) (.seq (.reg [⟨some 7, .call 114 [], none⟩,
  ⟨none, .st 2 (.t 2) (.t 7), none⟩])
 (.ret))
 (.skip)))
 (.seq (.reg [⟨some 8, .fad 2 (.t 1), none⟩,
  ⟨some 9, .ld true 2 (.t 8), none⟩,
  ⟨none, .st 2 (.t 2) (.t 9), none⟩])
 (.ret))), [.cell true 2 2]⟩
def d88 : FDef := ⟨133, .seq (.reg [⟨some 1, .box 100 4 (.t 0), none⟩,
  ⟨some 2, .mv (.c (.sl none 0 0 true)), none⟩])
 (.seq (.reg [⟨some 3, .mv (.c (.sl none 0 0 true)), none⟩])
 (.seq (.reg [⟨some 14, .fad 0 (.t 1), none⟩,
  ⟨some 15, .ld false 1 (.t 14), none⟩,
  ⟨some 16, .bin .rem (.t 15) (.c (.i .u8 (.ofNat 16))), none⟩,
  ⟨some 17, .conv .i64 (.t 16), none⟩,
  ⟨some 18, .fad 1 (.t 1), none⟩,
  ⟨some 19, .ld false 1 (.t 18), none⟩,
  ⟨some 20, .bin .rem (.t 19) (.c (.i .u8 (.ofNat 64))), none⟩,
  ⟨some 21, .conv .i64 (.t 20), none⟩,
  ⟨some 22, .fad 2 (.t 1), none⟩,
  ⟨some 23, .ld false 1 (.t 22), none⟩,
  ⟨some 24, .bin .rem (.t 23) (.c (.i .u8 (.ofNat 64))), none⟩,
  ⟨some 25, .conv .i64 (.t 24), none⟩,
  ⟨some 26, .call 121 [(.t 17), (.t 21), (.t 25)], none⟩,
  ⟨some 4, .new 197 12 [.b false, .s [], .b false, .s [], .b false, .s [], .b false, .s [], .b false, .s [], .b false, .s []], none⟩,
  ⟨none, .st 12 (.t 4) (.t 26), none⟩])
 (.seq (.reg [⟨some 5, .mv (.c (.b true)), none⟩])
 (.seq (.seq (.reg [⟨some 6, .mv (.c (.i .i64 (.ofNat 0))), none⟩])
 (.block 0 (.loop (.seq (.seq (.reg [⟨some 27, .mv (.t 6), none⟩,
  ⟨some 28, .fad 3 (.t 1), none⟩,
  ⟨some 29, .ld false 1 (.t 28), none⟩,
  ⟨some 30, .lenS (.t 29), none⟩,
  ⟨some 31, .bin .lss (.t 27) (.t 30), none⟩,
  ⟨some 32, .mv (.t 31), none⟩,
  ⟨some 33, .mv (.t 6), (some (32, true))⟩,
  ⟨some 34, .bin .lss (.t 33) (.c (.i .i64 (.ofNat 6))), (some (32, true))⟩,
  ⟨some 35, .pick (.t 32) (.t 34) (.c (.b false)), none⟩])
 (.cond (.t 35) (.skip)
 (.exit 0)))
 (.seq (.block 1 (.seq (.reg [⟨some 38, .fad 3 (.t 1), none⟩,
  ⟨some 39, .ld false 1 (.t 38), none⟩,
  ⟨some 40, .mv (.t 6), none⟩,
  ⟨some 41, .iadS 4 (.t 39) (.t 40), none⟩,
  ⟨some 42, .ld true 4 (.t 41), none⟩,
  ⟨some 7, .new 200 4 [.i .u8 (.ofNat 0), .i .u8 (.ofNat 0), .i .u8 (.ofNat 0), .i .u8 (.ofNat 0)], none⟩,
  ⟨none, .st 4 (.t 7) (.t 42), none⟩])
 (.seq (.reg [⟨some 44, .fad 0 (.t 4), none⟩,
  ⟨some 45, .fad 0 (.t 44), none⟩,
  ⟨some 46, .ld true 2 (.t 45), none⟩,
  ⟨some 47, .call 99 [(.t 46)], none⟩,
  ⟨some 43, .mv (.t 47), none⟩,
  ⟨some 48, .ext 0 (.t 43), none⟩,
  ⟨some 49, .ext 1 (.t 43), none⟩,
  ⟨some 8, .mv (.t 48), none⟩,
  ⟨some 9, .mv (.t 49), none⟩])
 (.seq (.reg [⟨some 50, .mv (.t 8), none⟩,
  ⟨some 51, .bin .add (.t 50) (.c (.i .i64 (.ofNat 1))), none⟩,
  ⟨some 52, .fad 0 (.t 7), none⟩,
  ⟨some 53, .ld false 1 (.t 52), none⟩,
  ⟨some 54, .bin .rem (.t 53) (.c (.i .u8 (.ofNat 8))), none⟩,
  ⟨some 55, .conv .i64 (.t 54), none⟩,
  ⟨some 56, .bin .add (.t 51) (.t 55), none⟩,
  ⟨some 57, .fad 1 (.t 7), none⟩,
  ⟨some 58, .ld false 1 (.t 57), none⟩,
  ⟨some 59, .bin .rem (.t 58) (.c (.i .u8 (.ofNat 64))), none⟩,
  ⟨some 60, .conv .i64 (.t 59), none⟩,
  ⟨some 61, .fad 2 (.t 7), none⟩,
  ⟨some 62, .ld false 1 (.t 61), none⟩,
  ⟨some 63, .bin .rem (.t 62) (.c (.i .u8 (.ofNat 64))), none⟩,
  ⟨some 64, .conv .i64 (.t 63), none⟩,
  ⟨some 65, .call 121 [(.t 56), (.t 60), (.t 64)], none⟩,
  ⟨some 10, .new 197 12 [.b false, .s [], .b false, .s [], .b false, .s [], .b false, .s [], .b false, .s [], .b false, .s []], none⟩,
  ⟨none, .st 12 (.t 10) (.t 65), none⟩])
 (.seq (.reg [⟨some 66, .ld true 12 (.t 4), none⟩,
  ⟨some 11, .new 197 12 [.b false, .s [], .b false, .s [], .b false, .s [], .b false, .s [], .b false, .s [], .b false, .s []], none⟩,
  ⟨none, .st 12 (.t 11) (.t 66), none⟩])
 (.seq (.seq (.reg [⟨some 67, .fad 3 (.t 7), none⟩,
  ⟨some 68, .ld false 1 (.t 67), none⟩,
  ⟨some 69, .bin .rem (.t 68) (.c (.i .u8 (.ofNat 8))), none⟩,
  ⟨some 70, .bin .eql (.t 69) (.c (.i .u8 (.ofNat 1))), none⟩])
 (.cond (.t 70) (.reg [⟨some 71, .fad 2 (.t 7), none⟩,
  ⟨some 72, .ld false 1 (.t 71), none⟩,
  ⟨some 73, .bin .rem (.t 72) (.c (.i .u8 (.ofNat 64))), none⟩,
  ⟨some 74, .conv .i64 (.t 73), none⟩,
  ⟨some 75, .fad 1 (.t 7), none⟩,
  ⟨some 76, .ld false 1 (.t 75), none⟩,
  ⟨some 77, .bin .rem (.t 76) (.c (.i .u8 (.ofNat 64))), none⟩,
  ⟨some 78, .conv .i64 (.t 77), none⟩,
  ⟨some 79, .call 121 [(.c (.i .i64 (.ofNat 0))), (.t 74), (.t 78)], none⟩,
  ⟨some 80, .fld 4 8 true (.t 79), none⟩,
  ⟨some 81, .fad 4 (.t 11), none⟩,
  ⟨none, .st 8 (.t 81) (.t 80), none⟩])
 (.skip)))
 (.seq (.seq (.reg [⟨some 82, .fad 3 (.t 7), none⟩,
  ⟨some 83, .ld false 1 (.t 82), none⟩,
  ⟨some 84, .bin .rem (.t 83) (.c (.i .u8 (.ofNat 8))), none⟩,
  ⟨some 85, .bin .neq (.t 84) (.c (.i .u8 (.ofNat 0))), none⟩])
 (.cond (.t 85) (.seq (.dreg 1 [⟨⟨some 86, .fad 0 (.t 11), none⟩, 0, [], [0], 0⟩,
  ⟨⟨some 87, .ld true 4 (.t 86), none⟩, 1, [0], [0], 0⟩,
  ⟨⟨some 88, .call 122 [(.t 87)], none⟩, 2, [0, 1], [0], 0⟩,
  ⟨⟨some 89, .fad 0 (.t 10), none⟩, 0, [], [0], 0⟩,
  ⟨⟨some 90, .ld true 4 (.t 89), none⟩, 1, [3], [0], 0⟩,
  ⟨⟨some 91, .call 122 [(.t 90)], none⟩, 2, [0, 1, 2, 3, 4], [0], 0⟩,
  ⟨⟨some 92, .mv (.t 3), none⟩, 0, [], [0], 0⟩,
  ⟨⟨some 93, .lenS (.t 92), none⟩, 0, [6], [0], 0⟩,
  ⟨⟨some 94, .bin .gtr (.t 93) (.c (.i .i64 (.ofNat 0))), none⟩, 0, [6, 7], [0], 0⟩,
  ⟨⟨some 95, .mv (.t 94), none⟩, 0, [0, 1, 2, 3, 4, 5, 6, 7, 8], [0], 0⟩,
  ⟨⟨some 96, .mv (.t 5), (some (95, true))⟩, 0, [0, 1, 2, 3, 4, 5, 6, 7, 8, 9], [0], 0⟩,
  ⟨⟨some 97, .un .not (.t 96), (some (95, true))⟩, 0, [0, 1, 2, 3, 4, 5, 6, 7, 8, 9, 10], [0], 0⟩,
  ⟨⟨some 98, .pick (.t 95) (.t 97) (.c (.b false)), none⟩, 0, [0, 1, 2, 3, 4, 5, 6, 7, 8, 9, 10, 11], [0], 0⟩,
  ⟨⟨some 99, .build [.b false, .s [], .b false, .s [], .b false, .s [], .b false, .s [], .b false, .b false, .s [], .b false, .s [], .b false, .s [], .b false, .s [], .b false, .b false, .b false] [(0, 9, (.t 88)), (9, 9, (.t 91)), (18, 1, (.t 98))], none⟩, 0, [0, 1, 2, 3, 4, 5, 6, 7, 8, 9, 10, 11, 12], [0], 0⟩,
  ⟨⟨some 12, .new 80 20 [.b false, .s [], .b false, .s [], .b false, .s [], .b false, .s [], .b false, .b false, .s [], .b false, .s [], .b false, .s [], .b false, .s [], .b false, .b false, .b false], none⟩, 3, [], [0], 0⟩,
  ⟨⟨none, .st 20 (.t 12) (.t 99), none⟩, 2, [0, 1, 2, 3, 4, 5, 6, 7, 8, 9, 10, 11, 12, 13, 14], [], 0⟩])
 (.dreg 1 [⟨⟨some 100, .mv (.t 3), none⟩, 0, [], [0], 0⟩,
  ⟨⟨some 101, .ld true 20 (.t 12), none⟩, 1, [], [0], 0⟩,
  ⟨⟨some 102, .ld true 12 (.t 11), none⟩, 1, [], [0], 0⟩,
  ⟨⟨some 103, .ld true 12 (.t 10), none⟩, 1, [], [0], 0⟩,
  ⟨⟨some 104, .call 123 [(.t 102), (.t 103)], none⟩, 2, [2, 3], [0], 0⟩,
  ⟨⟨some 105, .build [.b false, .s [], .b false, .s [], .b false, .s [], .b false, .s [], .b false, .b false, .s [], .b false, .s [], .b false, .s [], .b false, .s [], .b false, .b false, .b false, .b false, .s [], .b false, .s [], .b false, .s [], .b false, .s [], .b false, .s [], .b false, .s [], .b false, .s [], .b false, .s []] [(0, 20, (.t 101)), (20, 16, (.t 104))], none⟩, 0, [1, 2, 3, 4], [0], 0⟩,
  ⟨⟨some 106, .buildS 84 36 1 [.b false, .s [], .b false, .s [], .b false, .s [], .b false, .s [], .b false, .b false, .s [], .b false, .s [], .b false, .s [], .b false, .s [], .b false, .b false, .b false, .b false, .s [], .b false, .s [], .b false, .s [], .b false, .s [], .b false, .s [], .b false, .s [], .b false, .s [], .b false, .s []] [(0, 36, (.t 105))], none⟩, 3, [1, 2, 3, 4, 5], [0], 0⟩,
  ⟨⟨some 107, .app 84 36 408 (.t 100) (.t 106), none⟩, 2, [0, 1, 2, 3, 4, 5, 6], [], 0⟩,
  ⟨⟨some 3, .mv (.t 107), none⟩, 0, [0, 1, 2, 3, 4, 5, 6, 7], [], 0⟩]))
 (.skip)))
 (.seq (.reg [⟨some 108, .fad 3 (.t 7), none⟩,
  ⟨some 109, .ld false 1 (.t 108), none⟩,
  ⟨some 110, .bin .rem (.t 109) (.c (.i .u8 (.ofNat 8))), none⟩,
  ⟨some 111, .bin .eql (.t 110) (.c (.i .u8 (.ofNat 0))), none⟩,
  ⟨some 5, .mv (.t 111), none⟩])
 (.reg [⟨some 112, .ld true 12 (.t 10), none⟩,
  ⟨none, .st 12 (.t 4) (.t 112), none⟩])))))))))
 (.reg [⟨some 36, .mv (.t 6), none⟩,
  ⟨some 37, .bin .add (.t 36) (.c (.i .i64 (.ofNat 1))), none⟩,
  ⟨some 6, .mv (.t 37), none⟩]))))))
 (.seq (.seq (.reg [⟨some 113, .mv (.t 5), none⟩])
 (.cond (.t 113) (.seq (.reg [⟨some 114, .fad 0 (.t 4), none⟩,
  ⟨some 115, .ld true 4 (.t 114), none⟩,
  ⟨some 116, .call 122 [(.t 115)], none⟩,
  ⟨some 13, .new 78 9 [.b false, .s [], .b false, .s [], .b false, .s [], .b false, .s [], .b false], none⟩,
  ⟨none, .st 9 (.t 13) (.t 116), none⟩])
 (.dreg 1 [⟨⟨some 117, .mv (.t 3), none⟩, 0, [], [0], 0⟩,
  ⟨⟨some 118, .ld true 9 (.t 13), none⟩, 1, [], [0], 0⟩,
  ⟨⟨some 119, .ld true 9 (.t 13), none⟩, 1, [], [0], 0⟩,
  ⟨⟨some 120, .build [.b false, .s [], .b false, .s [], .b false, .s [], .b false, .s [], .b false, .b false, .s [], .b false, .s [], .b false, .s [], .b false, .s [], .b false, .b false, .b false] [(0, 9, (.t 118)), (9, 9, (.t 119))], none⟩, 0, [1, 2], [0], 0⟩,
  ⟨⟨some 121, .fad 4 (.t 4), none⟩, 0, [], [0], 0⟩,
  ⟨⟨some 122, .ld true 8 (.t 121), none⟩, 1, [4], [0], 0⟩,
  ⟨⟨some 123, .call 124 [(.t 122)], none⟩, 2, [4, 5], [0], 0⟩,
  ⟨⟨some 124, .build [.b false, .s [], .b false, .s [], .b false, .s [], .b false, .s [], .b false, .b false, .s [], .b false, .s [], .b false, .s [], .b false, .s [], .b false, .b false, .b false, .b false, .s [], .b false, .s [], .b false, .s [], .b false, .s [], .b false, .s [], .b false, .s [], .b false, .s [], .b false, .s []] [(0, 20, (.t 120)), (20, 16, (.t 123))], none⟩, 0, [1, 2, 3, 4, 5, 6], [0], 0⟩,
  ⟨⟨some 125, .buildS 84 36 1 [.b false, .s [], .b false, .s [], .b false, .s [], .b false, .s [], .b false, .b false, .s [], .b false, .s [], .b false, .s [], .b false, .s [], .b false, .b false, .b false, .b false, .s [], .b false, .s [], .b false, .s [], .b false, .s [], .b false, .s [], .b false, .s [], .b false, .s [], .b false, .s []] [(0, 36, (.t 124))], none⟩, 3, [1, 2, 3, 4, 5, 6, 7], [0], 0⟩,
  ⟨⟨some 126, .app 84 36 408 (.t 117) (.t 125), none⟩, 2, [0, 1, 2, 3, 4, 5, 6, 7, 8], [], 0⟩,
  ⟨⟨some 3, .mv (.t 126), none⟩, 0, [0, 1, 2, 3, 4, 5, 6, 7, 8, 9], [], 0⟩]))
 (.skip)))
 (.seq (.reg [⟨some 128, .mv (.t 3), none⟩,
  ⟨some 129, .call 125 [(.t 128)], none⟩,
  ⟨some 127, .mv (.t 129), none⟩,
  ⟨some 130, .ext 0 (.t 127), none⟩,
  ⟨some 131, .ext 1 (.t 127), none⟩,
  ⟨some 3, .mv (.t 130), none⟩])
 (.seq (.reg [⟨some 132, .mv (.t 3), none⟩,
  ⟨some 2, .mv (.t 132), none⟩])
 (.ret)))))))), [.t 2]⟩
def d89 : FDef := ⟨20, .seq (.reg [⟨some 2, .mv (.t 0), none⟩,
  ⟨some 3, .nilChk (.t 2), none⟩,
  ⟨some 4, .fad 0 (.t 3), none⟩,
  ⟨some 5, .ld false 1 (.t 4), none⟩,
  ⟨some 6, .eqP false (.t 5) (.c (.p none)), none⟩])
 (.cond (.t 6) (.bad)
 (.seq (.reg [⟨some 14, .mv (.t 0), none⟩,
  ⟨some 15, .nilChk (.t 14), none⟩,
  ⟨some 16, .fad 0 (.t 15), none⟩,
  ⟨some 17, .ld false 1 (.t 16), none⟩,
  ⟨some 18, .mv (.t 0), none⟩,
  ⟨some 19, .eqP true (.t 17) (.t 18), none⟩])
 (.cond (.t 19) (.bad)
 (.skip)))), []⟩
def d90 : FDef := ⟨39, .seq (.reg [⟨some 5, .mv (.t 1), none⟩,
  ⟨some 6, .conv .u64 (.t 5), none⟩,
  ⟨some 7, .bin .shl (.t 6) (.c (.i .u64 (.ofNat 1))), none⟩,
  ⟨some 4, .mv (.t 7), none⟩])
 (.seq (.seq (.reg [⟨some 8, .mv (.t 1), none⟩,
  ⟨some 9, .bin .lss (.t 8) (.c (.i .i64 (.ofNat 0))), none⟩])
 (.cond (.t 9) (.reg [⟨some 10, .mv (.t 4), none⟩,
  ⟨some 11, .un .xor (.t 10), none⟩,
  ⟨some 4, .mv (.t 11), none⟩])
 (.skip)))
 (.seq (.block 0 (.loop (.seq (.seq (.reg [⟨some 12, .mv (.t 4), none⟩,
  ⟨some 13, .bin .geq (.t 12) (.c (.i .u64 (.ofNat 128))), none⟩])
 (.cond (.t 13) (.skip)
 (.exit 0)))
 (.block 1 (.seq (.reg [⟨some 14, .mv (.t 0), none⟩,
  ⟨some 15, .mv (.t 0), none⟩,
  ⟨some 16, .nilChk (.t 15), none⟩,
  ⟨some 17, .fad 0 (.t 16), none⟩,
  ⟨some 18, .ld false 1 (.t 17), none⟩,
  ⟨some 19, .mv (.t 4), none⟩,
  ⟨some 20, .conv .u8 (.t 19), none⟩,
  ⟨some 21, .bin .or (.t 20) (.c (.i .u8 (.ofNat 128))), none⟩,
  ⟨some 22, .buildS 5 1 1 [.i .u8 (.ofNat 0)] [(0, 1, (.t 21))], none⟩,
  ⟨some 23, .app 5 1 1 (.t 18) (.t 22), none⟩,
  ⟨some 24, .nilChk (.t 14), none⟩,
  ⟨some 25, .fad 0 (.t 24), none⟩,
  ⟨none, .st 1 (.t 25) (.t 23), none⟩])
 (.reg [⟨some 26, .mv (.t 4), none⟩,
  ⟨some 27, .bin .shr (.t 26) (.c (.i .u64 (.ofNat 7))), none⟩,
  ⟨some 4, .mv (.t 27), none⟩]))))))
 (.reg [⟨some 28, .mv (.t 0), none⟩,
  ⟨some 29, .mv (.t 0), none⟩,
  ⟨some 30, .nilChk (.t 29), none⟩,
  ⟨some 31, .fad 0 (.t 30), none⟩,
  ⟨some 32, .ld false 1 (.t 31), none⟩,
  ⟨some 33, .mv (.t 4), none⟩,
  ⟨some 34, .conv .u8 (.t 33), none⟩,
  ⟨some 35, .buildS 5 1 1 [.i .u8 (.ofNat 0)] [(0, 1, (.t 34))], none⟩,
  ⟨some 36, .app 5 1 1 (.t 32) (.t 35), none⟩,
  ⟨some 37, .nilChk (.t 28), none⟩,
  ⟨some 38, .fad 0 (.t 37), none⟩,
  ⟨none, .st 1 (.t 38) (.t 36), none⟩]))), []⟩
def d91 : FDef := ⟨31, .seq (.reg [⟨some 4, .mv (.c (.i .i64 (.ofNat 0))), none⟩])
 (.block 0 (.loop (.seq (.seq (.reg [⟨some 6, .mv (.t 4), none⟩,
  ⟨some 7, .ld false 1 (.t 1), none⟩,
  ⟨some 8, .lenS (.t 7), none⟩,
  ⟨some 9, .bin .lss (.t 6) (.t 8), none⟩])
 (.cond (.t 9) (.skip)
 (.exit 0)))
 (.seq (.block 1 (.seq (.dreg 0 [⟨⟨some 13, .ld false 1 (.t 2), none⟩, 1, [], [], 0⟩,
  ⟨⟨some 14, .ld false 1 (.t 1), none⟩, 1, [], [], 0⟩,
  ⟨⟨some 15, .mv (.t 4), none⟩, 0, [], [], 0⟩,
  ⟨⟨some 16, .slcS 37 (.t 14) (some (.t 15)) none none, none⟩, 1, [1, 2], [], 0⟩,
  ⟨⟨some 17, .lenS (.t 16), none⟩, 0, [1, 2, 3], [], 0⟩,
  ⟨⟨some 18, .mnmx false (.t 13) (.t 17), none⟩, 0, [0, 1, 2, 3, 4], [], 0⟩,
  ⟨⟨some 5, .mv (.t 18), none⟩, 0, [0, 1, 2, 3, 4, 5], [], 0⟩])
 (.seq (.reg [⟨some 19, .mv (.t 0), none⟩,
  ⟨some 20, .ld false 1 (.t 1), none⟩,
  ⟨some 21, .mv (.t 4), none⟩,
  ⟨some 22, .mv (.t 4), none⟩,
  ⟨some 23, .mv (.t 5), none⟩,
  ⟨some 24, .bin .add (.t 22) (.t 23), none⟩,
  ⟨some 25, .mv (.t 4), none⟩,
  ⟨some 26, .mv (.t 5), none⟩,
  ⟨some 27, .bin .add (.t 25) (.t 26), none⟩,
  ⟨some 28, .slcS 37 (.t 20) (some (.t 21)) (some (.t 24)) (some (.t 27)), none⟩,
  ⟨some 29, .callV (.t 19) [(.t 28)], none⟩,
  ⟨some 30, .un .not (.t 29), none⟩])
 (.cond (.t 30) (.ret)
 (.skip)))))
 (.reg [⟨some 10, .mv (.t 4), none⟩,
  ⟨some 11, .ld false 1 (.t 2), none⟩,
  ⟨some 12, .bin .add (.t 10) (.t 11), none⟩,
  ⟨some 4, .mv (.t 12), none⟩]))))), []⟩
def d92 : FDef := ⟨16, .seq (.reg [⟨some 2, .mv (.c (.s [])), none⟩,
  ⟨some 3, .mv (.c (.i .i64 (.ofNat 0))), none⟩])
 (.seq (.seq (.reg [⟨some 6, .mv (.t 0), none⟩,
  ⟨some 7, .call 56 [(.t 6)], none⟩,
  ⟨some 4, .mv (.t 7), none⟩])
 (.seq (.reg [⟨some 8, .mv (.t 4), none⟩,
  ⟨some 9, .bin .neq (.t 8) (.c (.i .i64 (.ofNat 0))), none⟩])
 (.cond (.t 9) (.seq (.reg [⟨some 10, .mv (.t 4), none⟩,
  ⟨some 2, .mv (.c (.s [])), none⟩,
  ⟨some 3, .mv (.t 10), none⟩])
 (.ret))
 (.skip))))
 (.seq (.reg [⟨some 5, .new 155 1 [.sl none 0 0 true], none⟩])
 (.seq (.reg [⟨some 11, .mv (.t 0), none⟩,
  ⟨some 12, .call 127 [(.t 5), (.t 11)], none⟩])
 (.seq (.reg [⟨some 13, .fad 0 (.t 5), none⟩,
  ⟨some 14, .ld false 1 (.t 13), none⟩,
  ⟨some 15, .bts (.t 14), none⟩,
  ⟨some 2, .mv (.t 15), none⟩,
  ⟨some 3, .mv (.c (.i .i64 (.ofNat 0))), none⟩])
 (.ret))))), [.t 2, .t 3]⟩
def d93 : FDef := ⟨64, .seq (.reg [⟨some 4, .mv (.c (.i .i64 (.ofNat 0))), none⟩])
 (.seq (.seq (.reg [⟨some 11, .mv (.t 1), none⟩,
  ⟨some 12, .lenS (.t 11), none⟩,
  ⟨some 13, .bin .gtr (.t 12) (.c (.i .i64 (.ofNat 256))), none⟩])
 (.cond (.t 13) (.seq (.reg [⟨some 4, .mv (.c (.i .i64 (.ofNat 3))), none⟩])
 (.ret))
 (.skip)))
 (.seq (.seq (.reg [⟨some 14, .mv (.t 1), none⟩,
  ⟨some 15, .lenS (.t 14), none⟩,
  ⟨some 16, .mv (.c (.i .i64 (.ofNat 0))), none⟩])
 (.block 0 (.loop (.seq (.reg [⟨some 17, .bin .lss (.t 16) (.t 15), none⟩])
 (.seq (.cond (.t 17) (.skip)
 (.exit 0))
 (.seq (.block 1 (.seq (.reg [⟨some 18, .mv (.t 16), none⟩,
  ⟨some 19, .iadS 36 (.t 14) (.t 16), none⟩,
  ⟨some 20, .ld true 36 (.t 19), none⟩,
  ⟨some 6, .new 211 36 [.b false, .s [], .b false, .s [], .b false, .s [], .b false, .s [], .b false, .b false, .s [], .b false, .s [], .b false, .s [], .b false, .s [], .b false, .b false, .b false, .b false, .s [], .b false, .s [], .b false, .s [], .b false, .s [], .b false, .s [], .b false, .s [], .b false, .s [], .b false, .s []], none⟩,
  ⟨some 5, .mv (.t 18), none⟩,
  ⟨none, .st 36 (.t 6) (.t 20), none⟩])
 (.seq (.seq (.reg [⟨some 21, .fad 0 (.t 6), none⟩,
  ⟨some 22, .ld true 20 (.t 21), none⟩,
  ⟨some 23, .call 128 [(.t 22)], none⟩,
  ⟨some 7, .mv (.t 23), none⟩])
 (.seq (.reg [⟨some 24, .mv (.t 7), none⟩,
  ⟨some 25, .bin .neq (.t 24) (.c (.i .i64 (.ofNat 0))), none⟩])
 (.cond (.t 25) (.seq (.reg [⟨some 26, .mv (.t 7), none⟩,
  ⟨some 4, .mv (.t 26), none⟩])
 (.ret))
 (.skip))))
 (.seq (.seq (.reg [⟨some 27, .mv (.t 0), none⟩,
  ⟨some 28, .fad 20 (.t 6), none⟩,
  ⟨some 29, .ld true 16 (.t 28), none⟩,
  ⟨some 30, .callI (.t 27) "Check" [(.t 29)], none⟩,
  ⟨some 8, .mv (.t 30), none⟩])
 (.seq (.reg [⟨some 31, .mv (.t 8), none⟩,
  ⟨some 32, .bin .neq (.t 31) (.c (.i .i64 (.ofNat 0))), none⟩])
 (.cond (.t 32) (.seq (.reg [⟨some 33, .mv (.t 8), none⟩,
  ⟨some 4, .mv (.t 33), none⟩])
 (.ret))
 (.skip))))
 (.seq (.dreg 0 [⟨⟨some 34, .mv (.t 5), none⟩, 0, [], [], 0⟩,
  ⟨⟨some 35, .bin .gtr (.t 34) (.c (.i .i64 (.ofNat 0))), none⟩, 0, [0], [], 0⟩,
  ⟨⟨some 36, .mv (.t 35), none⟩, 0, [0, 1], [], 0⟩,
  ⟨⟨some 37, .mv (.t 1), (some (36, true))⟩, 0, [0, 1, 2], [], 0⟩,
  ⟨⟨some 38, .mv (.t 5), (some (36, true))⟩, 0, [0, 1, 2], [], 0⟩,
  ⟨⟨some 39, .bin .sub (.t 38) (.c (.i .i64 (.ofNat 1))), (some (36, true))⟩, 0, [0, 1, 2, 4], [], 0⟩,
  ⟨⟨some 40, .iadS 36 (.t 37) (.t 39), (some (36, true))⟩, 0, [0, 1, 2, 3, 4, 5], [], 0⟩,
  ⟨⟨some 41, .fad 0 (.t 40), (some (36, true))⟩, 0, [0, 1, 2, 3, 4, 5, 6], [], 0⟩,
  ⟨⟨some 42, .ld true 20 (.t 41), (some (36, true))⟩, 1, [0, 1, 2, 3, 4, 5, 6, 7], [], 0⟩,
  ⟨⟨some 43, .fad 0 (.t 6), (some (36, true))⟩, 0, [0, 1, 2], [], 0⟩,
  ⟨⟨some 44, .ld true 20 (.t 43), (some (36, true))⟩, 1, [0, 1, 2, 9], [], 0⟩,
  ⟨⟨some 45, .call 129 [(.t 42), (.t 44)], (some (36, true))⟩, 2, [0, 1, 2, 3, 4, 5, 6, 7, 8, 9, 10], [], 0⟩,
  ⟨⟨some 46, .un .not (.t 45), (some (36, true))⟩, 0, [0, 1, 2, 3, 4, 5, 6, 7, 8, 9, 10, 11], [], 0⟩,
  ⟨⟨some 47, .pick (.t 36) (.t 46) (.c (.b false)), none⟩, 0, [0, 1, 2, 3, 4, 5, 6, 7, 8, 9, 10, 11, 12], [], 0⟩])
 (.cond (.t 47) (.seq (.reg [⟨some 4, .mv (.c (.i .i64 (.ofNat 7))), none⟩])
 (.ret))
 (.skip)))))))
 (.reg [⟨some 48, .bin .add (.t 16) (.c (.i .i64 (.ofNat 1))), none⟩,
  ⟨some 16, .mv (.t 48), none⟩])))))))
 (.seq (.seq (.reg [⟨some 50, .mv (.t 0), none⟩,
  ⟨some 51, .mv (.t 1), none⟩,
  ⟨some 52, .call 130 [(.t 50), (.t 51)], none⟩,
  ⟨some 49, .mv (.t 52), none⟩,
  ⟨some 53, .ext 0 (.t 49), none⟩,
  ⟨some 54, .ext 1 (.t 49), none⟩,
  ⟨some 9, .mv (.t 53), none⟩,
  ⟨some 10, .mv (.t 54), none⟩])
 (.seq (.reg [⟨some 55, .mv (.t 10), none⟩,
  ⟨some 56, .bin .neq (.t 55) (.c (.i .i64 (.ofNat 0))), none⟩,
  ⟨some 57, .mv (.t 56), none⟩,
  ⟨some 58, .mv (.t 0), (some (57, false))⟩,
  ⟨some 59, .mv (.t 1), (some (57, false))⟩,
  ⟨some 60, .mv (.t 9), (some (57, false))⟩,
  ⟨some 61, .call 131 [(.t 58), (.t 59), (.t 60)], (some (57, false))⟩,
  ⟨some 62, .un .not (.t 61), (some (57, false))⟩,
  ⟨some 63, .pick (.t 57) (.c (.b true)) (.t 62), none⟩])
 (.cond (.t 63) (.seq (.reg [⟨some 4, .mv (.c (.i .i64 (.ofNat 5))), none⟩])
 (.ret))
 (.skip))))
 (.seq (.reg [⟨some 4, .mv (.c (.i .i64 (.ofNat 0))), none⟩])
 (.ret))))), [.t 4]⟩
def d94 : FDef := ⟨5, .seq (.reg [⟨some 2, .mv (.c (.sl none 0 0 true)), none⟩])
 (.seq (.reg [⟨some 3, .mv (.t 0), none⟩,
  ⟨some 4, .call 132 [(.t 3), (.c (.fn (.func 133) [] []))], none⟩,
  ⟨some 2, .mv (.t 4), none⟩])
 (.ret)), [.t 2]⟩
def d95 : FDef := ⟨14, .seq (.reg [⟨some 2, .box 82 16 (.t 0), none⟩,
  ⟨some 3, .box 78 9 (.t 1), none⟩,
  ⟨some 4, .new 169 18 [.b false, .s [], .b false, .s [], .b false, .s [], .b false, .s [], .b false, .b false, .s [], .b false, .s [], .b false, .s [], .b false, .s [], .b false], none⟩])
 (.seq (.dreg 0 [⟨⟨some 5, .ld true 16 (.t 2), none⟩, 1, [], [], 0⟩,
  ⟨⟨some 6, .call 135 [(.t 5)], none⟩, 2, [0], [], 0⟩,
  ⟨⟨some 7, .ld true 9 (.t 3), none⟩, 1, [], [], 0⟩,
  ⟨⟨some 8, .call 134 [(.t 6), (.t 7)], none⟩, 2, [0, 1, 2], [], 0⟩,
  ⟨⟨some 9, .ld true 16 (.t 2), none⟩, 1, [], [], 0⟩,
  ⟨⟨some 10, .call 136 [(.t 9)], none⟩, 2, [0, 1, 2, 3, 4], [], 0⟩,
  ⟨⟨some 11, .ld true 9 (.t 3), none⟩, 1, [], [], 0⟩,
  ⟨⟨some 12, .call 134 [(.t 10), (.t 11)], none⟩, 2, [0, 1, 2, 3, 4, 5, 6], [], 0⟩,
  ⟨⟨some 13, .build [.b false, .s [], .b false, .s [], .b false, .s [], .b false, .s [], .b false, .b false, .s [], .b false, .s [], .b false, .s [], .b false, .s [], .b false] [(0, 9, (.t 8)), (9, 9, (.t 12))], none⟩, 0, [0, 1, 2, 3, 4, 5, 6, 7], [], 0⟩,
  ⟨⟨none, .st 18 (.t 4) (.t 13), none⟩, 2, [0, 1, 2, 3, 4, 5, 6, 7, 8], [], 0⟩])
 (.ret)), [.cell true 18 4]⟩
def d96 : FDef := ⟨33, .seq (.reg [⟨some 4, .new 78 9 [.b false, .s [], .b false, .s [], .b false, .s [], .b false, .s [], .b false], none⟩])
 (.seq (.seq (.reg [⟨some 7, .mv (.t 0), none⟩,
  ⟨some 8, .lenS (.t 7), none⟩,
  ⟨some 9, .bin .lss (.t 8) (.c (.i .i64 (.ofNat 1))), none⟩])
 (.cond (.t 9) (.bad)
 (.skip)))
 (.seq (.reg [⟨some 11, .mv (.t 0), none⟩,
  ⟨some 12, .iadS 9 (.t 11) (.c (.i .i64 (.ofNat 0))), none⟩,
  ⟨some 13, .ld true 9 (.t 12), none⟩,
  ⟨some 5, .new 78 9 [.b false, .s [], .b false, .s [], .b false, .s [], .b false, .s [], .b false], none⟩,
  ⟨none, .st 9 (.t 5) (.t 13), none⟩])
 (.seq (.seq (.reg [⟨some 6, .mv (.c (.i .i64 (.ofNat 1))), none⟩])
 (.block 0 (.loop (.seq (.seq (.reg [⟨some 14, .mv (.t 6), none⟩,
  ⟨some 15, .mv (.t 0), none⟩,
  ⟨some 16, .lenS (.t 15), none⟩,
  ⟨some 17, .bin .lss (.t 14) (.t 16), none⟩])
 (.cond (.t 17) (.skip)
 (.exit 0)))
 (.seq (.block 1 (.seq (.dreg 0 [⟨⟨some 20, .mv (.t 1), none⟩, 0, [], [], 0⟩,
  ⟨⟨some 21, .mv (.t 0), none⟩, 0, [], [], 0⟩,
  ⟨⟨some 22, .mv (.t 6), none⟩, 0, [], [], 0⟩,
  ⟨⟨some 23, .iadS 9 (.t 21) (.t 22), none⟩, 0, [1, 2], [], 0⟩,
  ⟨⟨some 24, .ld true 9 (.t 23), none⟩, 1, [1, 2, 3], [], 0⟩,
  ⟨⟨some 25, .ld true 9 (.t 5), none⟩, 1, [], [], 0⟩,
  ⟨⟨some 26, .callV (.t 20) [(.t 24), (.t 25)], none⟩, 2, [0, 1, 2, 3, 4, 5], [], 0⟩,
  ⟨⟨some 27, .bin .lss (.t 26) (.c (.i .i64 (.ofNat 0))), none⟩, 0, [0, 1, 2, 3, 4, 5, 6], [], 0⟩])
 (.cond (.t 27) (.reg [⟨some 28, .mv (.t 0), none⟩,
  ⟨some 29, .mv (.t 6), none⟩,
  ⟨some 30, .iadS 9 (.t 28) (.t 29), none⟩,
  ⟨some 31, .ld true 9 (.t 30), none⟩,
  ⟨none, .st 9 (.t 5) (.t 31), none⟩])
 (.skip))))
 (.reg [⟨some 18, .mv (.t 6), none⟩,
  ⟨some 19, .bin .add (.t 18) (.c (.i .i64 (.ofNat 1))), none⟩,
  ⟨some 6, .mv (.t 19), none⟩]))))))
 (.seq (.reg [⟨some 32, .ld true 9 (.t 5), none⟩,
  ⟨none, .st 9 (.t 4) (.t 32), none⟩])
 (.ret))))), [.cell true 9 4]⟩
def d97 : FDef := ⟨65, .seq (.reg [⟨some 2, .box 78 9 (.t 0), none⟩,
  ⟨some 3, .box 78 9 (.t 1), none⟩,
  ⟨some 4, .mv (.c (.i .i64 (.ofNat 0))), none⟩])
 (.seq (.dreg 3 [⟨⟨some 11, .fad 0 (.t 2), none⟩, 0, [], [0, 1, 2], 0⟩,
  ⟨⟨some 12, .ld true 4 (.t 11), none⟩, 1, [0], [0, 1, 2], 0⟩,
  ⟨⟨some 13, .fad 0 (.t 3), none⟩, 0, [], [0, 1, 2], 0⟩,
  ⟨⟨some 14, .ld true 4 (.t 13), none⟩, 1, [2], [0, 1, 2], 0⟩,
  ⟨⟨some 15, .call 137 [(.t 12), (.t 14)], none⟩, 2, [0, 1, 2, 3], [0, 1, 2], 0⟩,
  ⟨⟨some 16, .ld true 9 (.t 2), none⟩, 1, [], [0, 1, 2], 0⟩,
  ⟨⟨some 17, .call 138 [(.t 16)], none⟩, 2, [0, 1, 2, 3, 4, 5], [0, 1, 2], 0⟩,
  ⟨⟨some 18, .ld true 9 (.t 3), none⟩, 1, [], [0, 1, 2], 0⟩,
  ⟨⟨some 19, .call 138 [(.t 18)], none⟩, 2, [0, 1, 2, 3, 4, 5, 6, 7], [0, 1, 2], 0⟩,
  ⟨⟨some 20, .call 139 [(.t 19)], none⟩, 2, [0, 1, 2, 3, 4, 5, 6, 7, 8], [0, 1, 2], 0⟩,
  ⟨⟨some 5, .new 76 4 [.b false, .s [], .b false, .s []], none⟩, 3, [], [0, 1, 2], 0⟩,
  ⟨⟨some 6, .new 76 4 [.b false, .s [], .b false, .s []], none⟩, 3, [], [0, 1, 2], 1⟩,
  ⟨⟨some 7, .new 76 4 [.b false, .s [], .b false, .s []], none⟩, 3, [], [0, 1, 2], 2⟩,
  ⟨⟨none, .st 4 (.t 5) (.t 15), none⟩, 2, [0, 1, 2, 3, 4, 5, 6, 7, 8, 9, 10, 11, 12], [], 0⟩,
  ⟨⟨none, .st 4 (.t 6) (.t 17), none⟩, 2, [0, 1, 2, 3, 4, 5, 6, 7, 8, 9, 10, 11, 12, 13], [], 0⟩,
  ⟨⟨none, .st 4 (.t 7) (.t 20), none⟩, 2, [0, 1, 2, 3, 4, 5, 6, 7, 8, 9, 10, 11, 12, 13, 14], [], 0⟩])
 (.seq (.dreg 0 [⟨⟨some 21, .ld true 4 (.t 5), none⟩, 1, [], [], 0⟩,
  ⟨⟨some 22, .ld true 4 (.t 6), none⟩, 1, [], [], 0⟩,
  ⟨⟨some 23, .fad 4 (.t 2), none⟩, 0, [], [], 0⟩,
  ⟨⟨some 24, .ld true 4 (.t 23), none⟩, 1, [2], [], 0⟩,
  ⟨⟨some 25, .call 140 [(.t 21), (.t 22), (.t 24)], none⟩, 2, [0, 1, 2, 3], [], 0⟩,
  ⟨⟨some 26, .ld true 4 (.t 7), none⟩, 1, [], [], 0⟩,
  ⟨⟨some 27, .call 141 [(.t 26)], none⟩, 2, [0, 1, 2, 3, 4, 5], [], 0⟩,
  ⟨⟨some 28, .fad 4 (.t 3), none⟩, 0, [], [], 0⟩,
  ⟨⟨some 29, .ld true 4 (.t 28), none⟩, 1, [7], [], 0⟩,
  ⟨⟨some 30, .call 141 [(.t 29)], none⟩, 2, [0, 1, 2, 3, 4, 5, 6, 7, 8], [], 0⟩,
  ⟨⟨some 31, .bin .mul (.t 27) (.t 30), none⟩, 0, [0, 1, 2, 3, 4, 5, 6, 7, 8, 9], [], 0⟩,
  ⟨⟨some 8, .mv (.t 25), none⟩, 0, [0, 1, 2, 3, 4, 5, 6, 7, 8, 9], [], 0⟩,
  ⟨⟨some 9, .mv (.t 31), none⟩, 0, [0, 1, 2, 3, 4, 5, 6, 7, 8, 9, 10, 11], [], 0⟩])
 (.seq (.block 0 (.seq (.reg [⟨some 33, .mv (.t 9), none⟩,
  ⟨some 34, .bin .eql (.t 33) (.c (.i .i64 (.ofNat 0))), none⟩,
  ⟨some 35, .mv (.t 34), none⟩,
  ⟨some 36, .mv (.t 8), (some (35, false))⟩,
  ⟨some 37, .mv (.t 9), (some (35, false))⟩,
  ⟨some 38, .bin .eql (.t 36) (.t 37), (some (35, false))⟩,
  ⟨some 39, .pick (.t 35) (.c (.b true)) (.t 38), none⟩,
  ⟨some 32, .mv (.t 39), none⟩])
 (.cond (.t 32) (.seq (.reg [⟨some 40, .mv (.t 8), none⟩,
  ⟨some 4, .mv (.t 40), none⟩])
 (.ret))
 (.seq (.reg [⟨some 42, .mv (.t 8), none⟩,
  ⟨some 43, .bin .eql (.t 42) (.c (.i .i64 (.ofNat 0))), none⟩,
  ⟨some 41, .mv (.t 43), none⟩])
 (.cond (.t 41) (.seq (.reg [⟨some 44, .mv (.t 9), none⟩,
  ⟨some 4, .mv (.t 44), none⟩])
 (.ret))
 (.skip))))))
 (.seq (.dreg 1 [⟨⟨some 45, .ld true 4 (.t 5), none⟩, 1, [], [0], 0⟩,
  ⟨⟨some 46, .ld true 4 (.t 5), none⟩, 1, [], [0], 0⟩,
  ⟨⟨some 47, .call 44 [(.t 45), (.t 46)], none⟩, 2, [0, 1], [0], 0⟩,
  ⟨⟨some 48, .fad 4 (.t 2), none⟩, 0, [], [0], 0⟩,
  ⟨⟨some 49, .ld true 4 (.t 48), none⟩, 1, [3], [0], 0⟩,
  ⟨⟨some 50, .call 42 [(.t 47), (.t 49)], none⟩, 2, [0, 1, 2, 3, 4], [0], 0⟩,
  ⟨⟨some 51, .fad 4 (.t 3), none⟩, 0, [], [0], 0⟩,
  ⟨⟨some 52, .ld true 4 (.t 51), none⟩, 1, [6], [0], 0⟩,
  ⟨⟨some 53, .call 137 [(.t 50), (.t 52)], none⟩, 2, [0, 1, 2, 3, 4, 5, 6, 7], [0], 0⟩,
  ⟨⟨some 10, .new 76 4 [.b false, .s [], .b false, .s []], none⟩, 3, [], [0], 0⟩,
  ⟨⟨none, .st 4 (.t 10) (.t 53), none⟩, 2, [0, 1, 2, 3, 4, 5, 6, 7, 8, 9], [], 0⟩])
 (.seq (.dreg 0 [⟨⟨some 54, .mv (.t 8), none⟩, 0, [], [], 0⟩,
  ⟨⟨some 55, .ld true 4 (.t 10), none⟩, 1, [], [], 0⟩,
  ⟨⟨some 56, .call 43 [(.c (.i .i64 (.ofNat 2)))], none⟩, 2, [], [], 0⟩,
  ⟨⟨some 57, .ld true 4 (.t 5), none⟩, 1, [], [], 0⟩,
  ⟨⟨some 58, .ld true 4 (.t 6), none⟩, 1, [], [], 0⟩,
  ⟨⟨some 59, .call 44 [(.t 57), (.t 58)], none⟩, 2, [2, 3, 4], [], 0⟩,
  ⟨⟨some 60, .call 44 [(.t 56), (.t 59)], none⟩, 2, [2, 3, 4, 5], [], 0⟩,
  ⟨⟨some 61, .fad 4 (.t 2), none⟩, 0, [], [], 0⟩,
  ⟨⟨some 62, .ld true 4 (.t 61), none⟩, 1, [7], [], 0⟩,
  ⟨⟨some 63, .call 140 [(.t 55), (.t 60), (.t 62)], none⟩, 2, [1, 2, 3, 4, 5, 6, 7, 8], [], 0⟩,
  ⟨⟨some 64, .bin .mul (.t 54) (.t 63), none⟩, 0, [0, 1, 2, 3, 4, 5, 6, 7, 8, 9], [], 0⟩,
  ⟨⟨some 4, .mv (.t 64), none⟩, 0, [0, 1, 2, 3, 4, 5, 6, 7, 8, 9, 10], [], 0⟩])
 (.ret)))))), [.t 4]⟩
def d98 : FDef := ⟨33, .seq (.reg [⟨some 4, .new 78 9 [.b false, .s [], .b false, .s [], .b false, .s [], .b false, .s [], .b false], none⟩])
 (.seq (.seq (.reg [⟨some 7, .mv (.t 0), none⟩,
  ⟨some 8, .lenS (.t 7), none⟩,
  ⟨some 9, .bin .lss (.t 8) (.c (.i .i64 (.ofNat 1))), none⟩])
 (.cond (.t 9) (.bad)
 (.skip)))
 (.seq (.reg [⟨some 11, .mv (.t 0), none⟩,
  ⟨some 12, .iadS 9 (.t 11) (.c (.i .i64 (.ofNat 0))), none⟩,
  ⟨some 13, .ld true 9 (.t 12), none⟩,
  ⟨some 5, .new 78 9 [.b false, .s [], .b false, .s [], .b false, .s [], .b false, .s [], .b false], none⟩,
  ⟨none, .st 9 (.t 5) (.t 13), none⟩])
 (.seq (.seq (.reg [⟨some 6, .mv (.c (.i .i64 (.ofNat 1))), none⟩])
 (.block 0 (.loop (.seq (.seq (.reg [⟨some 14, .mv (.t 6), none⟩,
  ⟨some 15, .mv (.t 0), none⟩,
  ⟨some 16, .lenS (.t 15), none⟩,
  ⟨some 17, .bin .lss (.t 14) (.t 16), none⟩])
 (.cond (.t 17) (.skip)
 (.exit 0)))
 (.seq (.block 1 (.seq (.dreg 0 [⟨⟨some 20, .mv (.t 1), none⟩, 0, [], [], 0⟩,
  ⟨⟨some 21, .mv (.t 0), none⟩, 0, [], [], 0⟩,
  ⟨⟨some 22, .mv (.t 6), none⟩, 0, [], [], 0⟩,
  ⟨⟨some 23, .iadS 9 (.t 21) (.t 22), none⟩, 0, [1, 2], [], 0⟩,
  ⟨⟨some 24, .ld true 9 (.t 23), none⟩, 1, [1, 2, 3], [], 0⟩,
  ⟨⟨some 25, .ld true 9 (.t 5), none⟩, 1, [], [], 0⟩,
  ⟨⟨some 26, .callV (.t 20) [(.t 24), (.t 25)], none⟩, 2, [0, 1, 2, 3, 4, 5], [], 0⟩,
  ⟨⟨some 27, .bin .gtr (.t 26) (.c (.i .i64 (.ofNat 0))), none⟩, 0, [0, 1, 2, 3, 4, 5, 6], [], 0⟩])
 (.cond (.t 27) (.reg [⟨some 28, .mv (.t 0), none⟩,
  ⟨some 29, .mv (.t 6), none⟩,
  ⟨some 30, .iadS 9 (.t 28) (.t 29), none⟩,
  ⟨some 31, .ld true 9 (.t 30), none⟩,
  ⟨none, .st 9 (.t 5) (.t 31), none⟩])
 (.skip))))
 (.reg [⟨some 18, .mv (.t 6), none⟩,
  ⟨some 19, .bin .add (.t 18) (.c (.i .i64 (.ofNat 1))), none⟩,
  ⟨some 6, .mv (.t 19), none⟩]))))))
 (.seq (.reg [⟨some 32, .ld true 9 (.t 5), none⟩,
  ⟨none, .st 9 (.t 4) (.t 32), none⟩])
 (.ret))))), [.cell true 9 4]⟩
def d99 : FDef := ⟨35, .seq (.reg [⟨some 1, .box 74 2 (.t 0), none⟩,
  ⟨some 2, .mv (.c (.i .i64 (.ofNat 0))), none⟩,
  ⟨some 3, .mv (.c (.b false)), none⟩])
 (.seq (.reg [⟨some 7, .fad 1 (.t 1), none⟩,
  ⟨some 8, .ld false 1 (.t 7), none⟩,
  ⟨some 9, .call 142 [(.t 8)], none⟩,
  ⟨some 6, .mv (.t 9), none⟩,
  ⟨some 10, .ext 0 (.t 6), none⟩,
  ⟨some 11, .ext 1 (.t 6), none⟩,
  ⟨some 4, .mv (.t 10), none⟩,
  ⟨some 5, .mv (.t 11), none⟩])
 (.seq (.block 0 (.seq (.reg [⟨some 13, .mv (.t 5), none⟩,
  ⟨some 14, .un .not (.t 13), none⟩,
  ⟨some 12, .mv (.t 14), none⟩])
 (.cond (.t 12) (.seq (.reg [⟨some 2, .mv (.c (.i .i64 (.ofNat 0))), none⟩,
  ⟨some 3, .mv (.c (.b false)), none⟩])
 (.ret))
 (.seq (.reg [⟨some 16, .fad 0 (.t 1), none⟩,
  ⟨some 17, .ld false 1 (.t 16), none⟩,
  ⟨some 18, .mv (.t 17), none⟩,
  ⟨some 19, .mv (.t 4), (some (18, true))⟩,
  ⟨some 20, .bin .leq (.t 19) (.c (.i .u64 (.ofNat 9223372036854775808))), (some (18, true))⟩,
  ⟨some 21, .pick (.t 18) (.t 20) (.c (.b false)), none⟩,
  ⟨some 15, .mv (.t 21), none⟩])
 (.cond (.t 15) (.seq (.reg [⟨some 22, .mv (.t 4), none⟩,
  ⟨some 23, .un .neg (.t 22), none⟩,
  ⟨some 24, .conv .i64 (.t 23), none⟩,
  ⟨some 2, .mv (.t 24), none⟩,
  ⟨some 3, .mv (.c (.b true)), none⟩])
 (.ret))
 (.seq (.reg [⟨some 26, .fad 0 (.t 1), none⟩,
  ⟨some 27, .ld false 1 (.t 26), none⟩,
  ⟨some 28, .un .not (.t 27), none⟩,
  ⟨some 29, .mv (.t 28), none⟩,
  ⟨some 30, .mv (.t 4), (some (29, true))⟩,
  ⟨some 31, .bin .leq (.t 30) (.c (.i .u64 (.ofNat 9223372036854775807))), (some (29, true))⟩,
  ⟨some 32, .pick (.t 29) (.t 31) (.c (.b false)), none⟩,
  ⟨some 25, .mv (.t 32), none⟩])
 (.cond (.t 25) (.seq (.reg [⟨some 33, .mv (.t 4), none⟩,
  ⟨some 34, .conv .i64 (.t 33), none⟩,
  ⟨some 2, .mv (.t 34), none⟩,
  ⟨some 3, .mv (.c (.b true)), none⟩])
 (.ret))
 (.skip))))))))
 (.seq (.reg [⟨some 2, .mv (.c (.i .i64 (.ofNat 0))), none⟩,
  ⟨some 3, .mv (.c (.b false)), none⟩])
 (.ret)))), [.t 2, .t 3]⟩
def d100 : FDef := ⟨59, .seq (.reg [⟨some 1, .box 78 9 (.t 0), none⟩,
  ⟨some 2, .new 74 2 [.b false, .s []], none⟩])
 (.seq (.dreg 2 [⟨⟨some 13, .fad 0 (.t 1), none⟩, 0, [], [0, 1], 0⟩,
  ⟨⟨some 14, .ld true 4 (.t 13), none⟩, 1, [0], [0, 1], 0⟩,
  ⟨⟨some 15, .call 143 [(.t 14)], none⟩, 2, [0, 1], [0, 1], 0⟩,
  ⟨⟨some 16, .fad 0 (.t 1), none⟩, 0, [], [0, 1], 0⟩,
  ⟨⟨some 17, .ld true 4 (.t 16), none⟩, 1, [3], [0, 1], 0⟩,
  ⟨⟨some 18, .call 87 [(.t 17)], none⟩, 2, [0, 1, 2, 3, 4], [0, 1], 0⟩,
  ⟨⟨some 3, .new 74 2 [.b false, .s []], none⟩, 3, [], [0, 1], 0⟩,
  ⟨⟨some 4, .new 74 2 [.b false, .s []], none⟩, 3, [], [0, 1], 1⟩,
  ⟨⟨none, .st 2 (.t 3) (.t 15), none⟩, 2, [0, 1, 2, 3, 4, 5, 6, 7], [], 0⟩,
  ⟨⟨none, .st 2 (.t 4) (.t 18), none⟩, 2, [0, 1, 2, 3, 4, 5, 6, 7, 8], [], 0⟩])
 (.seq (.dreg 2 [⟨⟨some 19, .fad 4 (.t 1), none⟩, 0, [], [0, 1], 0⟩,
  ⟨⟨some 20, .ld true 4 (.t 19), none⟩, 1, [0], [0, 1], 0⟩,
  ⟨⟨some 21, .call 143 [(.t 20)], none⟩, 2, [0, 1], [0, 1], 0⟩,
  ⟨⟨some 22, .fad 4 (.t 1), none⟩, 0, [], [0, 1], 0⟩,
  ⟨⟨some 23, .ld true 4 (.t 22), none⟩, 1, [3], [0, 1], 0⟩,
  ⟨⟨some 24, .call 87 [(.t 23)], none⟩, 2, [0, 1, 2, 3, 4], [0, 1], 0⟩,
  ⟨⟨some 5, .new 74 2 [.b false, .s []], none⟩, 3, [], [0, 1], 0⟩,
  ⟨⟨some 6, .new 74 2 [.b false, .s []], none⟩, 3, [], [0, 1], 1⟩,
  ⟨⟨none, .st 2 (.t 5) (.t 21), none⟩, 2, [0, 1, 2, 3, 4, 5, 6, 7], [], 0⟩,
  ⟨⟨none, .st 2 (.t 6) (.t 24), none⟩, 2, [0, 1, 2, 3, 4, 5, 6, 7, 8], [], 0⟩])
 (.seq (.dreg 1 [⟨⟨some 26, .ld true 2 (.t 4), none⟩, 1, [], [0], 0⟩,
  ⟨⟨some 27, .ld true 2 (.t 4), none⟩, 1, [], [0], 0⟩,
  ⟨⟨some 28, .call 86 [(.t 26), (.t 27)], none⟩, 2, [0, 1], [0], 0⟩,
  ⟨⟨some 29, .ld true 2 (.t 5), none⟩, 1, [], [0], 0⟩,
  ⟨⟨some 30, .ld true 2 (.t 6), none⟩, 1, [], [0], 0⟩,
  ⟨⟨some 31, .call 86 [(.t 29), (.t 30)], none⟩, 2, [0, 1, 2, 3, 4], [0], 0⟩,
  ⟨⟨some 32, .call 86 [(.t 28), (.t 31)], none⟩, 2, [0, 1, 2, 3, 4, 5], [0], 0⟩,
  ⟨⟨some 33, .call 144 [(.t 32)], none⟩, 2, [0, 1, 2, 3, 4, 5, 6], [0], 0⟩,
  ⟨⟨some 25, .mv (.t 33), none⟩, 0, [0, 1, 2, 3, 4, 5, 6, 7], [0], 0⟩,
  ⟨⟨some 34, .ext 0 (.t 25), none⟩, 0, [0, 1, 2, 3, 4, 5, 6, 7, 8], [0], 0⟩,
  ⟨⟨some 35, .ext 1 (.t 25), none⟩, 0, [0, 1, 2, 3, 4, 5, 6, 7, 8], [0], 0⟩,
  ⟨⟨some 7, .new 74 2 [.b false, .s []], none⟩, 3, [], [0], 0⟩,
  ⟨⟨none, .st 2 (.t 7) (.t 34), none⟩, 2, [0, 1, 2, 3, 4, 5, 6, 7, 8, 9, 11], [], 0⟩,
  ⟨⟨some 8, .mv (.t 35), none⟩, 0, [0, 1, 2, 3, 4, 5, 6, 7, 8, 9, 10, 11, 12], [], 0⟩])
 (.seq (.reg [⟨some 36, .ld true 2 (.t 3), none⟩,
  ⟨some 37, .ld true 2 (.t 6), none⟩,
  ⟨some 38, .call 86 [(.t 36), (.t 37)], none⟩,
  ⟨some 9, .new 74 2 [.b false, .s []], none⟩,
  ⟨none, .st 2 (.t 9) (.t 38), none⟩])
 (.seq (.seq (.reg [⟨some 39, .fad 8 (.t 1), none⟩,
  ⟨some 40, .ld false 1 (.t 39), none⟩])
 (.cond (.t 40) (.dreg 0 [⟨⟨some 41, .ld true 2 (.t 9), none⟩, 1, [], [], 0⟩,
  ⟨⟨some 42, .ld true 2 (.t 7), none⟩, 1, [], [], 0⟩,
  ⟨⟨some 43, .call 85 [(.c (.i .i64 (.ofNat 1)))], none⟩, 2, [], [], 0⟩,
  ⟨⟨some 44, .call 84 [(.t 42), (.t 43)], none⟩, 2, [1, 2], [], 0⟩,
  ⟨⟨some 45, .call 145 [(.t 41), (.t 44)], none⟩, 2, [0, 1, 2, 3], [], 0⟩,
  ⟨⟨none, .st 2 (.t 9) (.t 45), none⟩, 2, [0, 1, 2, 3, 4], [], 0⟩])
 (.reg [⟨some 46, .ld true 2 (.t 9), none⟩,
  ⟨some 47, .ld true 2 (.t 7), none⟩,
  ⟨some 48, .call 84 [(.t 46), (.t 47)], none⟩,
  ⟨none, .st 2 (.t 9) (.t 48), none⟩])))
 (.seq (.dreg 2 [⟨⟨some 50, .ld true 2 (.t 9), none⟩, 1, [], [0, 1], 0⟩,
  ⟨⟨some 51, .ld true 2 (.t 4), none⟩, 1, [], [0, 1], 0⟩,
  ⟨⟨some 52, .ld true 2 (.t 6), none⟩, 1, [], [0, 1], 0⟩,
  ⟨⟨some 53, .call 86 [(.t 51), (.t 52)], none⟩, 2, [1, 2], [0, 1], 0⟩,
  ⟨⟨some 54, .call 146 [(.t 50), (.t 53)], none⟩, 2, [0, 1, 2, 3], [0, 1], 0⟩,
  ⟨⟨some 49, .mv (.t 54), none⟩, 0, [0, 1, 2, 3, 4], [0, 1], 0⟩,
  ⟨⟨some 55, .ext 0 (.t 49), none⟩, 0, [0, 1, 2, 3, 4, 5], [0, 1], 0⟩,
  ⟨⟨some 56, .ext 1 (.t 49), none⟩, 0, [0, 1, 2, 3, 4, 5], [0, 1], 0⟩,
  ⟨⟨some 57, .ext 2 (.t 49), none⟩, 0, [0, 1, 2, 3, 4, 5], [0, 1], 0⟩,
  ⟨⟨some 10, .new 74 2 [.b false, .s []], none⟩, 3, [], [0, 1], 0⟩,
  ⟨⟨some 11, .new 74 2 [.b false, .s []], none⟩, 3, [], [0, 1], 1⟩,
  ⟨⟨none, .st 2 (.t 10) (.t 55), none⟩, 2, [0, 1, 2, 3, 4, 5, 6, 9, 10], [], 0⟩,
  ⟨⟨none, .st 2 (.t 11) (.t 56), none⟩, 2, [0, 1, 2, 3, 4, 5, 6, 7, 9, 10, 11], [], 0⟩,
  ⟨⟨some 12, .mv (.t 57), none⟩, 0, [0, 1, 2, 3, 4, 5, 6, 7, 8, 9, 10, 11, 12], [], 0⟩])
 (.seq (.reg [⟨some 58, .ld true 2 (.t 10), none⟩,
  ⟨none, .st 2 (.t 2) (.t 58), none⟩])
 (.ret)))))))), [.cell true 2 2]⟩
def d101 : FDef := ⟨7, .seq (.reg [⟨some 1, .box 78 9 (.t 0), none⟩,
  ⟨some 2, .new 74 2 [.b false, .s []], none⟩])
 (.seq (.reg [⟨some 3, .ld true 9 (.t 1), none⟩,
  ⟨some 4, .call 147 [(.t 3)], none⟩,
  ⟨some 5, .call 100 [(.t 4)], none⟩,
  ⟨some 6, .call 111 [(.t 5)], none⟩,
  ⟨none, .st 2 (.t 2) (.t 6), none⟩])
 (.ret)), [.cell true 2 2]⟩
def d102 : FDef := ⟨6, .seq (.reg [⟨some 2, .mv (.c (.b false)), none⟩])
 (.seq (.reg [⟨some 3, .mv (.t 0), none⟩,
  ⟨some 4, .mv (.t 0), none⟩,
  ⟨some 5, .bin .neq (.t 3) (.t 4), none⟩,
  ⟨some 2, .mv (.t 5), none⟩])
 (.ret)), [.t 2]⟩
def d103 : FDef := ⟨8, .seq (.reg [⟨some 4, .mv (.c (.b false)), none⟩])
 (.seq (.reg [⟨some 5, .mv (.t 0), none⟩,
  ⟨some 6, .mv (.t 1), none⟩,
  ⟨some 7, .call 148 [(.t 5), (.t 6)], none⟩,
  ⟨some 4, .mv (.t 7), none⟩])
 (.ret)), [.t 4]⟩
def d104 : FDef := ⟨35, .seq (.reg [⟨some 2, .mv (.c (.i .i64 (.ofNat 0))), none⟩])
 (.seq (.seq (.reg [⟨some 6, .mv (.t 0), none⟩,
  ⟨some 7, .nilChk (.t 6), none⟩,
  ⟨some 8, .fad 2 (.t 7), none⟩,
  ⟨some 9, .ld false 1 (.t 8), none⟩,
  ⟨some 10, .bin .neq (.t 9) (.c (.i .i64 (.ofNat 0))), none⟩])
 (.cond (.t 10) (.seq (.reg [⟨some 2, .mv (.c (.i .i64 (.ofNat 0))), none⟩])
 (.ret))
 (.skip)))
 (.seq (.dreg 0 [⟨⟨some 12, .mv (.t 0), none⟩, 0, [], [], 0⟩,
  ⟨⟨some 13, .nilChk (.t 12), none⟩, 0, [0], [], 0⟩,
  ⟨⟨some 14, .fad 0 (.t 13), none⟩, 0, [0, 1], [], 0⟩,
  ⟨⟨some 15, .ld false 1 (.t 14), none⟩, 1, [0, 1, 2], [], 0⟩,
  ⟨⟨some 16, .mv (.t 0), none⟩, 0, [], [], 0⟩,
  ⟨⟨some 17, .nilChk (.t 16), none⟩, 0, [4], [], 0⟩,
  ⟨⟨some 18, .fad 1 (.t 17), none⟩, 0, [4, 5], [], 0⟩,
  ⟨⟨some 19, .ld false 1 (.t 18), none⟩, 1, [4, 5, 6], [], 0⟩,
  ⟨⟨some 20, .call 149 [(.t 15), (.t 19)], none⟩, 2, [0, 1, 2, 3, 4, 5, 6, 7], [], 0⟩,
  ⟨⟨some 11, .mv (.t 20), none⟩, 0, [0, 1, 2, 3, 4, 5, 6, 7, 8], [], 0⟩,
  ⟨⟨some 21, .ext 0 (.t 11), none⟩, 0, [0, 1, 2, 3, 4, 5, 6, 7, 8, 9], [], 0⟩,
  ⟨⟨some 22, .ext 1 (.t 11), none⟩, 0, [0, 1, 2, 3, 4, 5, 6, 7, 8, 9], [], 0⟩,
  ⟨⟨some 23, .ext 2 (.t 11), none⟩, 0, [0, 1, 2, 3, 4, 5, 6, 7, 8, 9], [], 0⟩,
  ⟨⟨some 3, .mv (.t 21), none⟩, 0, [0, 1, 2, 3, 4, 5, 6, 7, 8, 9, 10], [], 0⟩,
  ⟨⟨some 4, .mv (.t 22), none⟩, 0, [0, 1, 2, 3, 4, 5, 6, 7, 8, 9, 10, 11, 13], [], 0⟩,
  ⟨⟨some 5, .mv (.t 23), none⟩, 0, [0, 1, 2, 3, 4, 5, 6, 7, 8, 9, 10, 11, 12, 13, 14], [], 0⟩])
 (.seq (.seq (.reg [⟨some 24, .mv (.t 5), none⟩,
  ⟨some 25, .bin .neq (.t 24) (.c (.i .i64 (.ofNat 0))), none⟩])
 (.cond (.t 25) (.seq (.reg [⟨some 26, .mv (.t 0), none⟩,
  ⟨some 27, .mv (.t 5), none⟩,
  ⟨some 28, .nilChk (.t 26), none⟩,
  ⟨some 29, .fad 2 (.t 28), none⟩,
  ⟨none, .st 1 (.t 29) (.t 27), none⟩])
 (.seq (.reg [⟨some 2, .mv (.c (.i .i64 (.ofNat 0))), none⟩])
 (.ret)))
 (.skip)))
 (.seq (.reg [⟨some 30, .mv (.t 0), none⟩,
  ⟨some 31, .mv (.t 4), none⟩,
  ⟨some 32, .nilChk (.t 30), none⟩,
  ⟨some 33, .fad 1 (.t 32), none⟩,
  ⟨none, .st 1 (.t 33) (.t 31), none⟩])
 (.seq (.reg [⟨some 34, .mv (.t 3), none⟩,
  ⟨some 2, .mv (.t 34), none⟩])
 (.ret)))))), [.t 2]⟩
def d105 : FDef := ⟨55, .seq (.reg [⟨some 4, .mv (.c (.s [])), none⟩])
 (.seq (.seq (.dreg 0 [⟨⟨some 5, .mv (.t 0), none⟩, 0, [], [], 0⟩,
  ⟨⟨some 6, .nilChk (.t 5), none⟩, 0, [0], [], 0⟩,
  ⟨⟨some 7, .fad 2 (.t 6), none⟩, 0, [0, 1], [], 0⟩,
  ⟨⟨some 8, .ld false 1 (.t 7), none⟩, 1, [0, 1, 2], [], 0⟩,
  ⟨⟨some 9, .bin .eql (.t 8) (.c (.i .i64 (.ofNat 0))), none⟩, 0, [0, 1, 2, 3], [], 0⟩,
  ⟨⟨some 10, .mv (.t 9), none⟩, 0, [0, 1, 2, 3, 4], [], 0⟩,
  ⟨⟨some 11, .mv (.t 1), (some (10, true))⟩, 0, [0, 1, 2, 3, 4, 5], [], 0⟩,
  ⟨⟨some 12, .mv (.t 0), (some (10, true))⟩, 0, [0, 1, 2, 3, 4, 5], [], 0⟩,
  ⟨⟨some 13, .nilChk (.t 12), (some (10, true))⟩, 0, [0, 1, 2, 3, 4, 5, 7], [], 0⟩,
  ⟨⟨some 14, .fad 0 (.t 13), (some (10, true))⟩, 0, [0, 1, 2, 3, 4, 5, 7, 8], [], 0⟩,
  ⟨⟨some 15, .ld false 1 (.t 14), (some (10, true))⟩, 1, [0, 1, 2, 3, 4, 5, 7, 8, 9], [], 0⟩,
  ⟨⟨some 16, .lenT (.t 15), (some (10, true))⟩, 0, [0, 1, 2, 3, 4, 5, 7, 8, 9, 10], [], 0⟩,
  ⟨⟨some 17, .mv (.t 0), (some (10, true))⟩, 0, [0, 1, 2, 3, 4, 5], [], 0⟩,
  ⟨⟨some 18, .nilChk (.t 17), (some (10, true))⟩, 0, [0, 1, 2, 3, 4, 5, 12], [], 0⟩,
  ⟨⟨some 19, .fad 1 (.t 18), (some (10, true))⟩, 0, [0, 1, 2, 3, 4, 5, 12, 13], [], 0⟩,
  ⟨⟨some 20, .ld false 1 (.t 19), (some (10, true))⟩, 1, [0, 1, 2, 3, 4, 5, 12, 13, 14], [], 0⟩,
  ⟨⟨some 21, .bin .sub (.t 16) (.t 20), (some (10, true))⟩, 0, [0, 1, 2, 3, 4, 5, 7, 8, 9, 10, 11, 12, 13, 14, 15], [], 0⟩,
  ⟨⟨some 22, .bin .gtr (.t 11) (.t 21), (some (10, true))⟩, 0, [0, 1, 2, 3, 4, 5, 6, 7, 8, 9, 10, 11, 12, 13, 14, 15, 16], [], 0⟩,
  ⟨⟨some 23, .pick (.t 10) (.t 22) (.c (.b false)), none⟩, 0, [0, 1, 2, 3, 4, 5, 6, 7, 8, 9, 10, 11, 12, 13, 14, 15, 16, 17], [], 0⟩])
 (.cond (.t 23) (.reg [⟨some 24, .mv (.t 0), none⟩,
  ⟨some 25, .nilChk (.t 24), none⟩,
  ⟨some 26, .fad 2 (.t 25), none⟩,
  ⟨none, .st 1 (.t 26) (.c (.i .i64 (.ofNat 22))), none⟩])
 (.skip)))
 (.seq (.seq (.reg [⟨some 27, .mv (.t 0), none⟩,
  ⟨some 28, .nilChk (.t 27), none⟩,
  ⟨some 29, .fad 2 (.t 28), none⟩,
  ⟨some 30, .ld false 1 (.t 29), none⟩,
  ⟨some 31, .bin .neq (.t 30) (.c (.i .i64 (.ofNat 0))), none⟩])
 (.cond (.t 31) (.seq (.reg [⟨some 4, .mv (.c (.s [])), none⟩])
 (.ret))
 (.skip)))
 (.seq (.reg [⟨some 32, .mv (.t 0), none⟩,
  ⟨some 33, .nilChk (.t 32), none⟩,
  ⟨some 34, .fad 1 (.t 33), none⟩,
  ⟨some 35, .ld false 1 (.t 34), none⟩,
  ⟨some 36, .mv (.t 1), none⟩,
  ⟨some 37, .bin .add (.t 35) (.t 36), none⟩,
  ⟨some 38, .nilChk (.t 32), none⟩,
  ⟨some 39, .fad 1 (.t 38), none⟩,
  ⟨none, .st 1 (.t 39) (.t 37), none⟩])
 (.seq (.dreg 0 [⟨⟨some 40, .mv (.t 0), none⟩, 0, [], [], 0⟩,
  ⟨⟨some 41, .nilChk (.t 40), none⟩, 0, [0], [], 0⟩,
  ⟨⟨some 42, .fad 0 (.t 41), none⟩, 0, [0, 1], [], 0⟩,
  ⟨⟨some 43, .ld false 1 (.t 42), none⟩, 1, [0, 1, 2], [], 0⟩,
  ⟨⟨some 44, .mv (.t 0), none⟩, 0, [], [], 0⟩,
  ⟨⟨some 45, .nilChk (.t 44), none⟩, 0, [4], [], 0⟩,
  ⟨⟨some 46, .fad 1 (.t 45), none⟩, 0, [4, 5], [], 0⟩,
  ⟨⟨some 47, .ld false 1 (.t 46), none⟩, 1, [4, 5, 6], [], 0⟩,
  ⟨⟨some 48, .mv (.t 1), none⟩, 0, [], [], 0⟩,
  ⟨⟨some 49, .bin .sub (.t 47) (.t 48), none⟩, 0, [4, 5, 6, 7, 8], [], 0⟩,
  ⟨⟨some 50, .mv (.t 0), none⟩, 0, [], [], 0⟩,
  ⟨⟨some 51, .nilChk (.t 50), none⟩, 0, [10], [], 0⟩,
  ⟨⟨some 52, .fad 1 (.t 51), none⟩, 0, [10, 11], [], 0⟩,
  ⟨⟨some 53, .ld false 1 (.t 52), none⟩, 1, [10, 11, 12], [], 0⟩,
  ⟨⟨some 54, .slcT (.t 43) (some (.t 49)) (some (.t 53)), none⟩, 0, [0, 1, 2, 3, 4, 5, 6, 7, 8, 9, 10, 11, 12, 13], [], 0⟩,
  ⟨⟨some 4, .mv (.t 54), none⟩, 0, [0, 1, 2, 3, 4, 5, 6, 7, 8, 9, 10, 11, 12, 13, 14], [], 0⟩])
 (.ret))))), [.t 4]⟩
def d106 : FDef := ⟨19, .seq (.reg [⟨some 4, .mv (.c (.i .i64 (.ofNat 0))), none⟩])
 (.seq (.reg [⟨some 6, .mv (.t 0), none⟩,
  ⟨some 7, .call 104 [(.t 6)], none⟩,
  ⟨some 5, .mv (.t 7), none⟩])
 (.seq (.seq (.reg [⟨some 8, .mv (.t 5), none⟩,
  ⟨some 9, .bin .lss (.t 8) (.c (.i .i64 (.ofNat 0))), none⟩,
  ⟨some 10, .mv (.t 9), none⟩,
  ⟨some 11, .mv (.t 5), (some (10, false))⟩,
  ⟨some 12, .mv (.t 1), (some (10, false))⟩,
  ⟨some 13, .bin .gtr (.t 11) (.t 12), (some (10, false))⟩,
  ⟨some 14, .pick (.t 10) (.c (.b true)) (.t 13), none⟩])
 (.cond (.t 14) (.seq (.reg [⟨some 15, .mv (.t 0), none⟩,
  ⟨some 16, .nilChk (.t 15), none⟩,
  ⟨some 17, .fad 2 (.t 16), none⟩,
  ⟨none, .st 1 (.t 17) (.c (.i .i64 (.ofNat 5))), none⟩])
 (.seq (.reg [⟨some 4, .mv (.c (.i .i64 (.ofNat 0))), none⟩])
 (.ret)))
 (.skip)))
 (.seq (.reg [⟨some 18, .mv (.t 5), none⟩,
  ⟨some 4, .mv (.t 18), none⟩])
 (.ret)))), [.t 4]⟩
def d107 : FDef := ⟨24, .seq (.reg [⟨some 2, .mv (.c (.sl none 0 0 true)), none⟩,
  ⟨some 3, .mv (.c (.i .i64 (.ofNat 0))), none⟩])
 (.seq (.reg [⟨some 8, .mv (.t 0), none⟩,
  ⟨some 9, .build [.s [], .i .i64 (.ofNat 0), .i .i64 (.ofNat 0)] [(0, 1, (.t 8))], none⟩,
  ⟨some 10, .box 239 3 (.t 9), none⟩,
  ⟨some 4, .mv (.t 10), none⟩])
 (.seq (.reg [⟨some 11, .mv (.t 4), none⟩,
  ⟨some 12, .call 150 [(.t 11)], none⟩,
  ⟨some 5, .mv (.t 12), none⟩])
 (.seq (.seq (.reg [⟨some 13, .mv (.t 4), none⟩,
  ⟨some 14, .call 151 [(.t 13)], none⟩,
  ⟨some 6, .mv (.t 14), none⟩])
 (.seq (.reg [⟨some 15, .mv (.t 6), none⟩,
  ⟨some 16, .bin .neq (.t 15) (.c (.i .i64 (.ofNat 0))), none⟩])
 (.cond (.t 16) (.seq (.reg [⟨some 17, .mv (.t 6), none⟩,
  ⟨some 2, .mv (.c (.sl none 0 0 true)), none⟩,
  ⟨some 3, .mv (.t 17), none⟩])
 (.ret))
 (.skip))))
 (.seq (.seq (.reg [⟨some 18, .mv (.t 5), none⟩,
  ⟨some 19, .call 56 [(.t 18)], none⟩,
  ⟨some 7, .mv (.t 19), none⟩])
 (.seq (.reg [⟨some 20, .mv (.t 7), none⟩,
  ⟨some 21, .bin .neq (.t 20) (.c (.i .i64 (.ofNat 0))), none⟩])
 (.cond (.t 21) (.seq (.reg [⟨some 22, .mv (.t 7), none⟩,
  ⟨some 2, .mv (.c (.sl none 0 0 true)), none⟩,
  ⟨some 3, .mv (.t 22), none⟩])
 (.ret))
 (.skip))))
 (.seq (.reg [⟨some 23, .mv (.t 5), none⟩,
  ⟨some 2, .mv (.t 23), none⟩,
  ⟨some 3, .mv (.c (.i .i64 (.ofNat 0))), none⟩])
 (.ret)))))), [.t 2, .t 3]⟩
def d108 : FDef := ⟨23, .seq (.reg [⟨some 2, .box 133 8 (.t 0), none⟩,
  ⟨some 3, .mv (.c (.b false)), none⟩])
 (.seq (.reg [⟨some 5, .fad 6 (.t 2), none⟩,
  ⟨some 6, .ld false 1 (.t 5), none⟩,
  ⟨some 7, .ld false 1 (.t 1), none⟩,
  ⟨some 8, .call 109 [(.t 6), (.t 7)], none⟩,
  ⟨some 4, .mv (.t 8), none⟩])
 (.seq (.dreg 0 [⟨⟨some 9, .mv (.t 4), none⟩, 0, [], [], 0⟩,
  ⟨⟨some 10, .fad 6 (.t 2), none⟩, 0, [], [], 0⟩,
  ⟨⟨some 11, .ld false 1 (.t 10), none⟩, 1, [1], [], 0⟩,
  ⟨⟨some 12, .lenS (.t 11), none⟩, 0, [1, 2], [], 0⟩,
  ⟨⟨some 13, .bin .lss (.t 9) (.t 12), none⟩, 0, [0, 1, 2, 3], [], 0⟩,
  ⟨⟨some 14, .mv (.t 13), none⟩, 0, [0, 1, 2, 3, 4], [], 0⟩,
  ⟨⟨some 15, .fad 6 (.t 2), (some (14, true))⟩, 0, [0, 1, 2, 3, 4, 5], [], 0⟩,
  ⟨⟨some 16, .ld false 1 (.t 15), (some (14, true))⟩, 1, [0, 1, 2, 3, 4, 5, 6], [], 0⟩,
  ⟨⟨some 17, .mv (.t 4), (some (14, true))⟩, 0, [0, 1, 2, 3, 4, 5], [], 0⟩,
  ⟨⟨some 18, .iadS 1 (.t 16) (.t 17), (some (14, true))⟩, 0, [0, 1, 2, 3, 4, 5, 6, 7, 8], [], 0⟩,
  ⟨⟨some 19, .ld false 1 (.t 18), (some (14, true))⟩, 1, [0, 1, 2, 3, 4, 5, 6, 7, 8, 9], [], 0⟩,
  ⟨⟨some 20, .ld false 1 (.t 1), (some (14, true))⟩, 1, [0, 1, 2, 3, 4, 5], [], 0⟩,
  ⟨⟨some 21, .bin .eql (.t 19) (.t 20), (some (14, true))⟩, 0, [0, 1, 2, 3, 4, 5, 6, 7, 8, 9, 10, 11], [], 0⟩,
  ⟨⟨some 22, .pick (.t 14) (.t 21) (.c (.b false)), none⟩, 0, [0, 1, 2, 3, 4, 5, 6, 7, 8, 9, 10, 11, 12], [], 0⟩,
  ⟨⟨some 3, .mv (.t 22), none⟩, 0, [0, 1, 2, 3, 4, 5, 6, 7, 8, 9, 10, 11, 12, 13], [], 0⟩])
 (.ret))), [.t 3]⟩
def d109 : FDef := ⟨9, .seq (.reg [⟨some 2, .box 51 1 (.t 0), none⟩,
  ⟨some 3, .box 3 1 (.t 1), none⟩,
  ⟨some 4, .mv (.c (.i .i64 (.ofNat 0))), none⟩])
 (.seq (.reg [⟨some 5, .ld false 1 (.t 2), none⟩,
  ⟨some 6, .lenS (.t 5), none⟩,
  ⟨some 7, .mkF (.func 153) [] [(.t 2), (.t 3)], none⟩,
  ⟨some 8, .call 152 [(.t 6), (.t 7)], none⟩,
  ⟨some 4, .mv (.t 8), none⟩])
 (.ret)), [.t 4]⟩
def d110 : FDef := ⟨10, .seq (.reg [⟨some 1, .box 74 2 (.t 0), none⟩,
  ⟨some 2, .mv (.c (.i .i64 (.ofNat 0))), none⟩])
 (.seq (.block 0 (.seq (.reg [⟨some 4, .fad 1 (.t 1), none⟩,
  ⟨some 5, .ld false 1 (.t 4), none⟩,
  ⟨some 6, .bin .eql (.t 5) (.c (.s [])), none⟩,
  ⟨some 3, .mv (.t 6), none⟩])
 (.cond (.t 3) (.seq (.reg [⟨some 2, .mv (.c (.i .i64 (.ofNat 0))), none⟩])
 (.ret))
 (.seq (.reg [⟨some 8, .fad 0 (.t 1), none⟩,
  ⟨some 9, .ld false 1 (.t 8), none⟩,
  ⟨some 7, .mv (.t 9), none⟩])
 (.cond (.t 7) (.seq (.reg [⟨some 2, .mv (.c (.i .i64 (.negSucc 0))), none⟩])
 (.ret))
 (.skip))))))
 (.seq (.reg [⟨some 2, .mv (.c (.i .i64 (.ofNat 1))), none⟩])
 (.ret))), [.t 2]⟩
def d111 : FDef := ⟨9, .seq (.reg [⟨some 1, .box 74 2 (.t 0), none⟩,
  ⟨some 2, .new 74 2 [.b false, .s []], none⟩])
 (.seq (.reg [⟨some 3, .fad 0 (.t 1), none⟩,
  ⟨some 4, .ld false 1 (.t 3), none⟩,
  ⟨some 5, .un .not (.t 4), none⟩,
  ⟨some 6, .fad 1 (.t 1), none⟩,
  ⟨some 7, .ld false 1 (.t 6), none⟩,
  ⟨some 8, .call 115 [(.t 5), (.t 7)], none⟩,
  ⟨none, .st 2 (.t 2) (.t 8), none⟩])
 (.ret)), [.cell true 2 2]⟩
def d112 : FDef := ⟨45, .seq (.reg [⟨some 2, .box 74 2 (.t 0), none⟩,
  ⟨some 3, .box 74 2 (.t 1), none⟩,
  ⟨some 4, .new 74 2 [.b false, .s []], none⟩])
 (.seq (.dreg 0 [⟨⟨some 12, .fad 1 (.t 2), none⟩, 0, [], [], 0⟩,
  ⟨⟨some 13, .ld false 1 (.t 12), none⟩, 1, [0], [], 0⟩,
  ⟨⟨some 14, .fad 1 (.t 3), none⟩, 0, [], [], 0⟩,
  ⟨⟨some 15, .ld false 1 (.t 14), none⟩, 1, [2], [], 0⟩,
  ⟨⟨some 5, .mv (.t 13), none⟩, 0, [0, 1], [], 0⟩,
  ⟨⟨some 6, .mv (.t 15), none⟩, 0, [0, 1, 2, 3, 4], [], 0⟩])
 (.seq (.block 0 (.loop (.seq (.seq (.reg [⟨some 16, .mv (.t 6), none⟩,
  ⟨some 17, .bin .neq (.t 16) (.c (.s [])), none⟩])
 (.cond (.t 17) (.skip)
 (.exit 0)))
 (.block 1 (.seq (.seq (.reg [⟨some 19, .mv (.t 5), none⟩,
  ⟨some 20, .mv (.t 6), none⟩,
  ⟨some 21, .call 154 [(.t 19), (.t 20)], none⟩,
  ⟨some 18, .mv (.t 21), none⟩,
  ⟨some 22, .ext 0 (.t 18), none⟩,
  ⟨some 23, .ext 1 (.t 18), none⟩,
  ⟨some 24, .ext 2 (.t 18), none⟩,
  ⟨some 7, .mv (.t 22), none⟩,
  ⟨some 8, .mv (.t 23), none⟩,
  ⟨some 9, .mv (.t 24), none⟩])
 (.seq (.reg [⟨some 25, .mv (.t 9), none⟩])
 (.cond (.t 25) (.seq (.block 2 (.loop (.seq (.seq (.reg [⟨some 26, .mv (.t 8), none⟩,
  ⟨some 27, .bin .neq (.t 26) (.c (.i .u64 (.ofNat 0))), none⟩])
 (.cond (.t 27) (.skip)
 (.exit 2)))
 (.block 3 (.dreg 0 [⟨⟨some 28, .mv (.t 8), none⟩, 0, [], [], 0⟩,
  ⟨⟨some 29, .mv (.t 7), none⟩, 0, [], [], 0⟩,
  ⟨⟨some 30, .mv (.t 8), none⟩, 0, [], [], 0⟩,
  ⟨⟨some 31, .bin .rem (.t 29) (.t 30), none⟩, 0, [1, 2], [], 0⟩,
  ⟨⟨some 7, .mv (.t 28), none⟩, 0, [0, 1], [], 0⟩,
  ⟨⟨some 8, .mv (.t 31), none⟩, 0, [0, 1, 2, 3, 4], [], 0⟩])))))
 (.seq (.reg [⟨some 32, .mv (.t 7), none⟩,
  ⟨some 33, .call 119 [(.t 32)], none⟩,
  ⟨some 34, .call 115 [(.c (.b false)), (.t 33)], none⟩,
  ⟨none, .st 2 (.t 4) (.t 34), none⟩])
 (.ret)))
 (.skip))))
 (.seq (.reg [⟨some 36, .mv (.t 5), none⟩,
  ⟨some 37, .mv (.t 6), none⟩,
  ⟨some 38, .call 155 [(.t 36), (.t 37)], none⟩,
  ⟨some 35, .mv (.t 38), none⟩,
  ⟨some 39, .ext 0 (.t 35), none⟩,
  ⟨some 40, .ext 1 (.t 35), none⟩,
  ⟨some 10, .mv (.t 39), none⟩,
  ⟨some 11, .mv (.t 40), none⟩])
 (.reg [⟨some 41, .mv (.t 6), none⟩,
  ⟨some 42, .mv (.t 11), none⟩,
  ⟨some 5, .mv (.t 41), none⟩,
  ⟨some 6, .mv (.t 42), none⟩])))))))
 (.seq (.reg [⟨some 43, .mv (.t 5), none⟩,
  ⟨some 44, .call 115 [(.c (.b false)), (.t 43)], none⟩,
  ⟨none, .st 2 (.t 4) (.t 44), none⟩])
 (.ret)))), [.cell true 2 4]⟩
def d113 : FDef := ⟨16, .seq (.reg [⟨some 2, .box 74 2 (.t 0), none⟩,
  ⟨some 3, .box 74 2 (.t 1), none⟩,
  ⟨some 4, .new 74 2 [.b false, .s []], none⟩])
 (.seq (.reg [⟨some 9, .ld true 2 (.t 2), none⟩,
  ⟨some 10, .ld true 2 (.t 3), none⟩,
  ⟨some 11, .call 146 [(.t 9), (.t 10)], none⟩,
  ⟨some 8, .mv (.t 11), none⟩,
  ⟨some 12, .ext 0 (.t 8), none⟩,
  ⟨some 13, .ext 1 (.t 8), none⟩,
  ⟨some 14, .ext 2 (.t 8), none⟩,
  ⟨some 5, .new 74 2 [.b false, .s []], none⟩,
  ⟨some 6, .new 74 2 [.b false, .s []], none⟩,
  ⟨none, .st 2 (.t 5) (.t 12), none⟩,
  ⟨none, .st 2 (.t 6) (.t 13), none⟩,
  ⟨some 7, .mv (.t 14), none⟩])
 (.seq (.reg [⟨some 15, .ld true 2 (.t 5), none⟩,
  ⟨none, .st 2 (.t 4) (.t 15), none⟩])
 (.ret))), [.cell true 2 4]⟩
def d114 : FDef := ⟨2, .seq (.reg [⟨some 0, .new 74 2 [.b false, .s []], none⟩])
 (.seq (.reg [⟨some 1, .call 85 [(.c (.i .i64 (.ofNat 1)))], none⟩,
  ⟨none, .st 2 (.t 0) (.t 1), none⟩])
 (.ret)), [.cell true 2 0]⟩
def d115 : FDef := ⟨12, .seq (.reg [⟨some 4, .new 74 2 [.b false, .s []], none⟩])
 (.seq (.reg [⟨some 5, .mv (.t 0), none⟩,
  ⟨some 6, .mv (.t 5), none⟩,
  ⟨some 7, .mv (.t 1), (some (6, true))⟩,
  ⟨some 8, .bin .neq (.t 7) (.c (.s [])), (some (6, true))⟩,
  ⟨some 9, .pick (.t 6) (.t 8) (.c (.b false)), none⟩,
  ⟨some 10, .mv (.t 1), none⟩,
  ⟨some 11, .build [.b false, .s []] [(0, 1, (.t 9)), (1, 1, (.t 10))], none⟩,
  ⟨none, .st 2 (.t 4) (.t 11), none⟩])
 (.ret)), [.cell true 2 4]⟩
def d116 : FDef := ⟨84, .seq (.reg [⟨some 4, .mv (.c (.s [])), none⟩])
 (.seq (.seq (.reg [⟨some 16, .mv (.t 0), none⟩,
  ⟨some 17, .mv (.t 1), none⟩,
  ⟨some 18, .call 154 [(.t 16), (.t 17)], none⟩,
  ⟨some 15, .mv (.t 18), none⟩,
  ⟨some 19, .ext 0 (.t 15), none⟩,
  ⟨some 20, .ext 1 (.t 15), none⟩,
  ⟨some 21, .ext 2 (.t 15), none⟩,
  ⟨some 5, .mv (.t 19), none⟩,
  ⟨some 6, .mv (.t 20), none⟩,
  ⟨some 7, .mv (.t 21), none⟩])
 (.seq (.reg [⟨some 22, .mv (.t 7), none⟩])
 (.cond (.t 22) (.seq (.reg [⟨some 24, .mv (.t 5), none⟩,
  ⟨some 25, .mv (.t 6), none⟩,
  ⟨some 26, .call 156 [(.t 24), (.t 25), (.c (.i .u64 (.ofNat 0)))], none⟩,
  ⟨some 23, .mv (.t 26), none⟩,
  ⟨some 27, .ext 0 (.t 23), none⟩,
  ⟨some 28, .ext 1 (.t 23), none⟩,
  ⟨some 8, .mv (.t 27), none⟩,
  ⟨some 9, .mv (.t 28), none⟩])
 (.seq (.reg [⟨some 29, .mv (.t 9), none⟩,
  ⟨some 30, .bin .eql (.t 29) (.c (.i .u64 (.ofNat 0))), none⟩])
 (.cond (.t 30) (.seq (.reg [⟨some 31, .mv (.t 8), none⟩,
  ⟨some 32, .call 119 [(.t 31)], none⟩,
  ⟨some 4, .mv (.t 32), none⟩])
 (.ret))
 (.skip))))
 (.skip))))
 (.seq (.reg [⟨some 33, .mv (.t 0), none⟩,
  ⟨some 34, .call 157 [(.t 33)], none⟩,
  ⟨some 35, .mv (.t 1), none⟩,
  ⟨some 36, .call 157 [(.t 35)], none⟩,
  ⟨some 10, .mv (.t 34), none⟩,
  ⟨some 11, .mv (.t 36), none⟩])
 (.seq (.seq (.reg [⟨some 37, .mv (.t 10), none⟩,
  ⟨some 38, .lenS (.t 37), none⟩,
  ⟨some 39, .mv (.t 11), none⟩,
  ⟨some 40, .lenS (.t 39), none⟩,
  ⟨some 41, .bin .lss (.t 38) (.t 40), none⟩])
 (.cond (.t 41) (.reg [⟨some 42, .mv (.t 11), none⟩,
  ⟨some 43, .mv (.t 10), none⟩,
  ⟨some 10, .mv (.t 42), none⟩,
  ⟨some 11, .mv (.t 43), none⟩])
 (.skip)))
 (.seq (.reg [⟨some 44, .mv (.t 10), none⟩,
  ⟨some 45, .lenS (.t 44), none⟩,
  ⟨some 46, .bin .add (.t 45) (.c (.i .i64 (.ofNat 1))), none⟩,
  ⟨some 47, .mkS 159 1 4 [.i .u32 (.ofNat 0)] (.t 46) (.t 46), none⟩,
  ⟨some 12, .mv (.t 47), none⟩])
 (.seq (.reg [⟨some 48, .mv (.t 12), none⟩,
  ⟨some 49, .mv (.t 10), none⟩,
  ⟨some 50, .copy 1 (.t 48) (.t 49), none⟩])
 (.seq (.reg [⟨some 13, .mv (.c (.i .u64 (.ofNat 0))), none⟩])
 (.seq (.seq (.reg [⟨some 51, .mv (.t 12), none⟩,
  ⟨some 52, .lenS (.t 51), none⟩,
  ⟨some 53, .mv (.c (.i .i64 (.ofNat 0))), none⟩])
 (.block 0 (.loop (.seq (.reg [⟨some 54, .bin .lss (.t 53) (.t 52), none⟩])
 (.seq (.cond (.t 54) (.skip)
 (.exit 0))
 (.seq (.block 1 (.seq (.reg [⟨some 55, .mv (.t 53), none⟩,
  ⟨some 14, .mv (.t 55), none⟩])
 (.seq (.reg [⟨some 56, .mv (.t 13), none⟩,
  ⟨some 57, .mv (.t 12), none⟩,
  ⟨some 58, .mv (.t 14), none⟩,
  ⟨some 59, .iadS 1 (.t 57) (.t 58), none⟩,
  ⟨some 60, .ld false 1 (.t 59), none⟩,
  ⟨some 61, .conv .u64 (.t 60), none⟩,
  ⟨some 62, .bin .add (.t 56) (.t 61), none⟩,
  ⟨some 13, .mv (.t 62), none⟩])
 (.seq (.seq (.reg [⟨some 63, .mv (.t 14), none⟩,
  ⟨some 64, .mv (.t 11), none⟩,
  ⟨some 65, .lenS (.t 64), none⟩,
  ⟨some 66, .bin .lss (.t 63) (.t 65), none⟩])
 (.cond (.t 66) (.reg [⟨some 67, .mv (.t 13), none⟩,
  ⟨some 68, .mv (.t 11), none⟩,
  ⟨some 69, .mv (.t 14), none⟩,
  ⟨some 70, .iadS 1 (.t 68) (.t 69), none⟩,
  ⟨some 71, .ld false 1 (.t 70), none⟩,
  ⟨some 72, .conv .u64 (.t 71), none⟩,
  ⟨some 73, .bin .add (.t 67) (.t 72), none⟩,
  ⟨some 13, .mv (.t 73), none⟩])
 (.skip)))
 (.reg [⟨some 74, .mv (.t 12), none⟩,
  ⟨some 75, .mv (.t 14), none⟩,
  ⟨some 76, .mv (.t 13), none⟩,
  ⟨some 77, .conv .u32 (.t 76), none⟩,
  ⟨some 78, .mv (.t 13), none⟩,
  ⟨some 79, .bin .shr (.t 78) (.c (.i .u64 (.ofNat 32))), none⟩,
  ⟨some 80, .iadS 1 (.t 74) (.t 75), none⟩,
  ⟨none, .st 1 (.t 80) (.t 77), none⟩,
  ⟨some 13, .mv (.t 79), none⟩])))))
 (.reg [⟨some 81, .bin .add (.t 53) (.c (.i .i64 (.ofNat 1))), none⟩,
  ⟨some 53, .mv (.t 81), none⟩])))))))
 (.seq (.reg [⟨some 82, .mv (.t 12), none⟩,
  ⟨some 83, .call 158 [(.t 82)], none⟩,
  ⟨some 4, .mv (.t 83), none⟩])
 (.ret))))))))), [.t 4]⟩
def d117 : FDef := ⟨15, .seq (.reg [⟨some 4, .mv (.c (.i .i64 (.ofNat 0))), none⟩])
 (.seq (.reg [⟨some 5, .mv (.t 0), none⟩,
  ⟨some 6, .lenT (.t 5), none⟩,
  ⟨some 7, .mv (.t 1), none⟩,
  ⟨some 8, .lenT (.t 7), none⟩,
  ⟨some 9, .call 60 [(.t 6), (.t 8)], none⟩,
  ⟨some 10, .mv (.t 0), none⟩,
  ⟨some 11, .mv (.t 1), none⟩,
  ⟨some 12, .call 160 [(.t 10), (.t 11)], none⟩,
  ⟨some 13, .buildS 3 1 2 [.i .i64 (.ofNat 0)] [(0, 1, (.t 9)), (1, 1, (.t 12))], none⟩,
  ⟨some 14, .call 159 [(.t 13)], none⟩,
  ⟨some 4, .mv (.t 14), none⟩])
 (.ret)), [.t 4]⟩
def d118 : FDef := ⟨71, .seq (.reg [⟨some 4, .mv (.c (.s [])), none⟩])
 (.seq (.seq (.reg [⟨some 15, .mv (.t 0), none⟩,
  ⟨some 16, .mv (.t 1), none⟩,
  ⟨some 17, .call 154 [(.t 15), (.t 16)], none⟩,
  ⟨some 14, .mv (.t 17), none⟩,
  ⟨some 18, .ext 0 (.t 14), none⟩,
  ⟨some 19, .ext 1 (.t 14), none⟩,
  ⟨some 20, .ext 2 (.t 14), none⟩,
  ⟨some 5, .mv (.t 18), none⟩,
  ⟨some 6, .mv (.t 19), none⟩,
  ⟨some 7, .mv (.t 20), none⟩])
 (.seq (.reg [⟨some 21, .mv (.t 7), none⟩])
 (.cond (.t 21) (.seq (.reg [⟨some 22, .mv (.t 5), none⟩,
  ⟨some 23, .mv (.t 6), none⟩,
  ⟨some 24, .bin .sub (.t 22) (.t 23), none⟩,
  ⟨some 25, .call 119 [(.t 24)], none⟩,
  ⟨some 4, .mv (.t 25), none⟩])
 (.ret))
 (.skip))))
 (.seq (.reg [⟨some 26, .mv (.t 0), none⟩,
  ⟨some 27, .call 157 [(.t 26)], none⟩,
  ⟨some 28, .mv (.t 1), none⟩,
  ⟨some 29, .call 157 [(.t 28)], none⟩,
  ⟨some 8, .mv (.t 27), none⟩,
  ⟨some 9, .mv (.t 29), none⟩])
 (.seq (.reg [⟨some 30, .mv (.t 8), none⟩,
  ⟨some 31, .lenS (.t 30), none⟩,
  ⟨some 32, .mkS 159 1 4 [.i .u32 (.ofNat 0)] (.t 31) (.t 31), none⟩,
  ⟨some 10, .mv (.t 32), none⟩])
 (.seq (.reg [⟨some 33, .mv (.t 10), none⟩,
  ⟨some 34, .mv (.t 8), none⟩,
  ⟨some 35, .copy 1 (.t 33) (.t 34), none⟩])
 (.seq (.reg [⟨some 11, .mv (.c (.i .i64 (.ofNat 0))), none⟩])
 (.seq (.seq (.reg [⟨some 36, .mv (.t 10), none⟩,
  ⟨some 37, .lenS (.t 36), none⟩,
  ⟨some 38, .mv (.c (.i .i64 (.ofNat 0))), none⟩])
 (.block 0 (.loop (.seq (.reg [⟨some 39, .bin .lss (.t 38) (.t 37), none⟩])
 (.seq (.cond (.t 39) (.skip)
 (.exit 0))
 (.seq (.block 1 (.seq (.reg [⟨some 40, .mv (.t 38), none⟩,
  ⟨some 12, .mv (.t 40), none⟩])
 (.seq (.reg [⟨some 41, .mv (.t 10), none⟩,
  ⟨some 42, .mv (.t 12), none⟩,
  ⟨some 43, .iadS 1 (.t 41) (.t 42), none⟩,
  ⟨some 44, .ld false 1 (.t 43), none⟩,
  ⟨some 45, .conv .i64 (.t 44), none⟩,
  ⟨some 46, .mv (.t 11), none⟩,
  ⟨some 47, .bin .sub (.t 45) (.t 46), none⟩,
  ⟨some 13, .mv (.t 47), none⟩])
 (.seq (.seq (.reg [⟨some 48, .mv (.t 12), none⟩,
  ⟨some 49, .mv (.t 9), none⟩,
  ⟨some 50, .lenS (.t 49), none⟩,
  ⟨some 51, .bin .lss (.t 48) (.t 50), none⟩])
 (.cond (.t 51) (.reg [⟨some 52, .mv (.t 13), none⟩,
  ⟨some 53, .mv (.t 9), none⟩,
  ⟨some 54, .mv (.t 12), none⟩,
  ⟨some 55, .iadS 1 (.t 53) (.t 54), none⟩,
  ⟨some 56, .ld false 1 (.t 55), none⟩,
  ⟨some 57, .conv .i64 (.t 56), none⟩,
  ⟨some 58, .bin .sub (.t 52) (.t 57), none⟩,
  ⟨some 13, .mv (.t 58), none⟩])
 (.skip)))
 (.seq (.reg [⟨some 11, .mv (.c (.i .i64 (.ofNat 0))), none⟩])
 (.seq (.seq (.reg [⟨some 59, .mv (.t 13), none⟩,
  ⟨some 60, .bin .lss (.t 59) (.c (.i .i64 (.ofNat 0))), none⟩])
 (.cond (.t 60) (.reg [⟨some 61, .mv (.t 13), none⟩,
  ⟨some 62, .bin .add (.t 61) (.c (.i .i64 (.ofNat 4294967296))), none⟩,
  ⟨some 13, .mv (.t 62), none⟩,
  ⟨some 11, .mv (.c (.i .i64 (.ofNat 1))), none⟩])
 (.skip)))
 (.reg [⟨some 63, .mv (.t 10), none⟩,
  ⟨some 64, .mv (.t 12), none⟩,
  ⟨some 65, .mv (.t 13), none⟩,
  ⟨some 66, .conv .u32 (.t 65), none⟩,
  ⟨some 67, .iadS 1 (.t 63) (.t 64), none⟩,
  ⟨none, .st 1 (.t 67) (.t 66), none⟩])))))))
 (.reg [⟨some 68, .bin .add (.t 38) (.c (.i .i64 (.ofNat 1))), none⟩,
  ⟨some 38, .mv (.t 68), none⟩])))))))
 (.seq (.reg [⟨some 69, .mv (.t 10), none⟩,
  ⟨some 70, .call 158 [(.t 69)], none⟩,
  ⟨some 4, .mv (.t 70), none⟩])
 (.ret)))))))), [.t 4]⟩
def d119 : FDef := ⟨30, .seq (.reg [⟨some 2, .mv (.c (.s [])), none⟩])
 (.seq (.seq (.reg [⟨some 6, .mv (.t 0), none⟩,
  ⟨some 7, .bin .eql (.t 6) (.c (.i .u64 (.ofNat 0))), none⟩])
 (.cond (.t 7) (.seq (.reg [⟨some 2, .mv (.c (.s [])), none⟩])
 (.ret))
 (.skip)))
 (.seq (.reg [⟨some 8, .mv (.t 0), none⟩,
  ⟨some 9, .call 161 [(.t 8)], none⟩,
  ⟨some 10, .bin .add (.t 9) (.c (.i .i64 (.ofNat 7))), none⟩,
  ⟨some 11, .bin .quo (.t 10) (.c (.i .i64 (.ofNat 8))), none⟩,
  ⟨some 3, .mv (.t 11), none⟩])
 (.seq (.reg [⟨some 4, .new 254 1 [.i .u8 (.ofNat 0), .i .u8 (.ofNat 0), .i .u8 (.ofNat 0), .i .u8 (.ofNat 0), .i .u8 (.ofNat 0), .i .u8 (.ofNat 0), .i .u8 (.ofNat 0), .i .u8 (.ofNat 0)], none⟩])
 (.seq (.seq (.reg [⟨some 12, .mv (.t 3), none⟩,
  ⟨some 13, .mv (.c (.i .i64 (.ofNat 0))), none⟩])
 (.block 0 (.loop (.seq (.reg [⟨some 14, .bin .lss (.t 13) (.t 12), none⟩])
 (.seq (.cond (.t 14) (.skip)
 (.exit 0))
 (.seq (.block 1 (.seq (.reg [⟨some 15, .mv (.t 13), none⟩,
  ⟨some 5, .mv (.t 15), none⟩])
 (.reg [⟨some 16, .mv (.t 3), none⟩,
  ⟨some 17, .bin .sub (.t 16) (.c (.i .i64 (.ofNat 1))), none⟩,
  ⟨some 18, .mv (.t 5), none⟩,
  ⟨some 19, .bin .sub (.t 17) (.t 18), none⟩,
  ⟨some 20, .mv (.t 0), none⟩,
  ⟨some 21, .mv (.t 5), none⟩,
  ⟨some 22, .bin .mul (.c (.i .i64 (.ofNat 8))) (.t 21), none⟩,
  ⟨some 23, .bin .shr (.t 20) (.t 22), none⟩,
  ⟨some 24, .conv .u8 (.t 23), none⟩,
  ⟨some 25, .iadA 8 1 (.t 4) (.t 19), none⟩,
  ⟨none, .st 1 (.t 25) (.t 24), none⟩])))
 (.reg [⟨some 26, .bin .add (.t 13) (.c (.i .i64 (.ofNat 1))), none⟩,
  ⟨some 13, .mv (.t 26), none⟩])))))))
 (.seq (.reg [⟨some 27, .mv (.t 3), none⟩,
  ⟨some 28, .slcA 8 1 (.t 4) none (some (.t 27)), none⟩,
  ⟨some 29, .bts (.t 28), none⟩,
  ⟨some 2, .mv (.t 29), none⟩])
 (.ret)))))), [.t 2]⟩
def tr1 : Tr := .n 88 d88 (.n 72 d72 (.n 64 d64 (.n 60 d60 (.n 58 d58 (.n 57 d57 (.l) (.l)) (.n 59 d59 (.l) (.l))) (.n 62 d62 (.n 61 d61 (.l) (.l)) (.n 63 d63 (.l) (.l)))) (.n 68 d68 (.n 66 d66 (.n 65 d65 (.l) (.l)) (.n 67 d67 (.l) (.l))) (.n 70 d70 (.n 69 d69 (.l) (.l)) (.n 71 d71 (.l) (.l))))) (.n 80 d80 (.n 76 d76 (.n 74 d74 (.n 73 d73 (.l) (.l)) (.n 75 d75 (.l) (.l))) (.n 78 d78 (.n 77 d77 (.l) (.l)) (.n 79 d79 (.l) (.l)))) (.n 84 d84 (.n 82 d82 (.n 81 d81 (.l) (.l)) (.n 83 d83 (.l) (.l))) (.n 86 d86 (.n 85 d85 (.l) (.l)) (.n 87 d87 (.l) (.l)))))) (.n 104 d104 (.n 96 d96 (.n 92 d92 (.n 90 d90 (.n 89 d89 (.l) (.l)) (.n 91 d91 (.l) (.l))) (.n 94 d94 (.n 93 d93 (.l) (.l)) (.n 95 d95 (.l) (.l)))) (.n 100 d100 (.n 98 d98 (.n 97 d97 (.l) (.l)) (.n 99 d99 (.l) (.l))) (.n 102 d102 (.n 101 d101 (.l) (.l)) (.n 103 d103 (.l) (.l))))) (.n 112 d112 (.n 108 d108 (.n 106 d106 (.n 105 d105 (.l) (.l)) (.n 107 d107 (.l) (.l))) (.n 110 d110 (.n 109 d109 (.l) (.l)) (.n 111 d111 (.l) (.l)))) (.n 116 d116 (.n 114 d114 (.n 113 d113 (.l) (.l)) (.n 115 d115 (.l) (.l))) (.n 118 d118 (.n 117 d117 (.l) (.l)) (.n 119 d119 (.l) (.l))))))
theorem chk1 : chkTr Go.Proofs.Tryz.prog tr1 = true := by kernel_rfl
end Go.Em
