/-
  The short forms of the functions that the statements reach, written by a program of our own (wip/tools/gen.py) out of the print of the loaded program; that they fit the program is proved in Fits.
-/
import Derived.Test.YtbdknlejnacmgaaPiA
namespace Go.Proofs.Ytbdknlejnacmgaa.Pi
open Go
set_option maxRecDepth 10000

/-- gimbal/gimballaw07.LinBack -/
def T_law07_LinBack_0 : PCode :=
  .reg [⟨some 68, .mv (.t 16), none, none, []⟩,
    ⟨some 69, .bin 0 .add (.t 68) (.c (.int .i64 1)), none, none, []⟩,
    ⟨some 16, .mv (.t 69), none, none, []⟩] false [5, 6, 9, 12, 15, 16] [13]
def T_law07_LinBack_1 : PCode :=
  .seq (
   .block 1 (
    .seq (
     .reg [⟨some 70, .mv (.t 15), none, none, []⟩,
       ⟨some 71, .mv (.t 16), none, none, []⟩,
       ⟨some 72, .idx 2 (.t 70) (.t 71), none, none, []⟩,
       ⟨some 73, .load 2 true (.t 72), none, none, []⟩,
       ⟨some 74, .mv (.t 9), none, none, []⟩,
       ⟨some 75, .mv (.t 16), none, none, []⟩,
       ⟨some 76, .idx 2 (.t 74) (.t 75), none, none, []⟩,
       ⟨some 77, .load 2 true (.t 76), none, none, []⟩,
       ⟨some 78, .load 2 true (.t 12), none, none, []⟩,
       ⟨some 79, .call (.c (.fn 15 [])) [.t 77, .t 78] none none, none, none, []⟩,
       ⟨some 80, .call (.c (.fn 14 [])) [.t 73, .t 79] none none, none, none, []⟩,
       ⟨some 17, .mv (.t 80), none, none, []⟩] true [5, 6, 9, 12, 15, 16, 17] [13]) (
    .seq (
     .reg [⟨some 81, .mv (.t 17), none, none, []⟩,
       ⟨some 82, .bin 0 .neq (.t 81) (.c (.int .i64 0)), none, none, []⟩] false [5, 6, 9, 12, 15, 16, 82] [13]) (
    .cond (.t 82) (
     .seq (
      .reg [⟨some 4, .mv (.c (.bool false)), none, none, []⟩] false [4] []) (
     .ret)) (
     .skip))))) T_law07_LinBack_0
def B_law07_LinBack_2 : PCode :=
  .seq (
   .seq (
    .reg [⟨some 64, .mv (.t 16), none, none, []⟩,
      ⟨some 65, .mv (.t 6), none, none, []⟩,
      ⟨some 66, .len false (.t 65), none, none, []⟩,
      ⟨some 67, .bin 0 .lss (.t 64) (.t 66), none, none, []⟩] false [5, 6, 9, 12, 15, 16, 67] [13]) (
   .cond (.t 67) (
    .skip) (
    .exit 0))) T_law07_LinBack_1
def T_law07_LinBack_3 : PCode :=
  .seq (
   .reg [⟨some 83, .mv (.t 5), none, none, []⟩,
     ⟨some 4, .mv (.t 83), none, none, []⟩] false [4] []) (
  .ret)
def T_law07_LinBack_4 : PCode :=
  .seq (
   .reg [⟨some 61, .mv (.t 6), none, none, []⟩,
     ⟨some 62, .mv (.t 11), none, none, []⟩,
     ⟨some 63, .call (.c (.fn 13 [])) [.t 61, .t 62] none none, none, none, []⟩,
     ⟨some 15, .mv (.t 63), none, none, []⟩] false [5, 6, 9, 12, 15] [13]) (
  .seq (
   .seq (
    .reg [⟨some 16, .mv (.c (.int .i64 0)), none, none, []⟩] false [5, 6, 9, 12, 15, 16] [13]) (
   .block 0 (
    .loop B_law07_LinBack_2))) T_law07_LinBack_3)
def T_law07_LinBack_5 : PCode :=
  .seq (
   .seq (
    .reg [⟨some 52, .mv (.t 13), none, none, []⟩,
      ⟨some 53, .bin 0 .neq (.t 52) (.c (.int .i64 0)), none, none, []⟩,
      ⟨some 54, .mv (.t 53), none, none, []⟩,
      ⟨some 55, .mv (.t 11), (some (54, false)), none, []⟩,
      ⟨some 56, .len false (.t 55), (some (54, false)), none, []⟩,
      ⟨some 57, .mv (.t 6), (some (54, false)), none, []⟩,
      ⟨some 58, .len false (.t 57), (some (54, false)), none, []⟩,
      ⟨some 59, .bin 0 .neq (.t 56) (.t 58), (some (54, false)), none, []⟩,
      ⟨some 60, .pick (.t 54) (.c (.bool true)) (.t 59), none, none, []⟩] false [5, 6, 9, 11, 12, 60] [13]) (
   .cond (.t 60) (
    .seq (
     .reg [⟨some 4, .mv (.c (.bool false)), none, none, []⟩] false [4] []) (
    .ret)) (
    .skip))) T_law07_LinBack_4
def T_law07_LinBack_6 : PCode :=
  .seq (
   .reg [⟨some 29, .mv (.t 1), none, none, []⟩,
     ⟨some 30, .mv (.t 6), none, none, []⟩,
     ⟨some 31, .len false (.t 30), none, none, []⟩,
     ⟨some 32, .call (.c (.fn 9 [])) [.t 29, .t 31] none none, none, none, []⟩,
     ⟨some 28, .mv (.t 32), none, none, []⟩,
     ⟨some 33, .ext (.t 28) 0, none, none, []⟩,
     ⟨some 34, .ext (.t 28) 1, none, none, []⟩,
     ⟨some 9, .mv (.t 33), none, none, []⟩,
     ⟨some 10, .mv (.t 34), none, none, []⟩] false [5, 6, 9] []) (
  .seq (
   .reg [⟨some 36, .mv (.t 6), none, none, []⟩,
     ⟨some 37, .mv (.t 9), none, none, []⟩,
     ⟨some 38, .call (.c (.fn 10 [])) [.t 36, .t 37] none none, none, none, []⟩,
     ⟨some 35, .mv (.t 38), none, none, []⟩,
     ⟨some 39, .ext (.t 35) 0, none, none, []⟩,
     ⟨some 40, .ext (.t 35) 1, none, none, []⟩,
     ⟨some 41, .ext (.t 35) 2, none, none, []⟩,
     ⟨some 12, .alloc 13 [.bool false, .nil0] [], none, none, []⟩,
     ⟨some 11, .mv (.t 39), none, none, []⟩,
     ⟨none, .store 2 (.t 12) (.t 40), none, none, []⟩,
     ⟨some 13, .mv (.t 41), none, none, []⟩] false [5, 6, 9, 11, 12, 13] [13]) (
  .seq (
   .reg [⟨some 42, .mv (.t 6), none, none, []⟩,
     ⟨some 43, .call (.c (.fn 11 [])) [.t 42] none none, none, none, []⟩,
     ⟨some 44, .call (.c (.fn 12 [])) [.t 43] none none, none, none, []⟩,
     ⟨some 14, .mv (.t 44), none, none, []⟩] false [5, 6, 9, 11, 12, 13, 14] [13]) (
  .seq (
   .seq (
    .reg [⟨some 45, .mv (.t 14), none, none, []⟩,
      ⟨some 46, .bin 0 .eql (.t 45) (.c (.int .i64 0)), none, none, []⟩] false [5, 6, 9, 11, 12, 13, 46] [13]) (
   .cond (.t 46) (
    .seq (
     .reg [⟨some 47, .mv (.t 5), none, none, []⟩,
       ⟨some 48, .mv (.t 47), none, none, []⟩,
       ⟨some 49, .mv (.t 13), (some (48, true)), none, []⟩,
       ⟨some 50, .bin 0 .eql (.t 49) (.c (.int .i64 11)), (some (48, true)), none, []⟩,
       ⟨some 51, .pick (.t 48) (.t 50) (.c (.bool false)), none, none, []⟩,
       ⟨some 4, .mv (.t 51), none, none, []⟩] false [4] []) (
    .ret)) (
    .skip))) T_law07_LinBack_5)))
def C_law07_LinBack : PCode :=
  .seq (
   .reg [⟨some 4, .mv (.c (.bool false)), none, none, []⟩] false [0, 1] []) (
  .seq (
   .reg [⟨some 18, .call (.c (.fn 7 [])) [] none none, none, none, []⟩,
     ⟨some 5, .mv (.t 18), none, none, []⟩] false [0, 1, 5] []) (
  .seq (
   .reg [⟨some 20, .mv (.t 0), none, none, []⟩,
     ⟨some 21, .call (.c (.fn 8 [])) [.t 20, .c (.int .i64 8)] none none, none, none, []⟩,
     ⟨some 19, .mv (.t 21), none, none, []⟩,
     ⟨some 22, .ext (.t 19) 0, none, none, []⟩,
     ⟨some 23, .ext (.t 19) 1, none, none, []⟩,
     ⟨some 24, .ext (.t 19) 2, none, none, []⟩,
     ⟨some 6, .mv (.t 22), none, none, []⟩,
     ⟨some 7, .mv (.t 23), none, none, []⟩,
     ⟨some 8, .mv (.t 24), none, none, []⟩] false [1, 5, 6, 8] []) (
  .seq (
   .seq (
    .reg [⟨some 25, .mv (.t 8), none, none, []⟩,
      ⟨some 26, .un .not (.t 25), none, none, []⟩] false [1, 5, 6, 26] []) (
   .cond (.t 26) (
    .seq (
     .reg [⟨some 27, .mv (.t 5), none, none, []⟩,
       ⟨some 4, .mv (.t 27), none, none, []⟩] false [4] []) (
    .ret)) (
    .skip))) T_law07_LinBack_6)))
def D_law07_LinBack : PFunc := ⟨2, [.tmp 4], false, C_law07_LinBack⟩
abbrev F_law07_LinBack : Nat := 3

/-- gimbal/gimballaw07.LinReckons -/
def T_law07_LinReckons_0 : PCode :=
  .seq (
   .reg [⟨some 49, .mv (.t 2), none, none, []⟩,
     ⟨some 50, .mv (.t 8), none, none, []⟩,
     ⟨some 51, .len false (.t 50), none, none, []⟩,
     ⟨some 52, .call (.c (.fn 9 [])) [.t 49, .t 51] none none, none, none, []⟩,
     ⟨some 48, .mv (.t 52), none, none, []⟩,
     ⟨some 53, .ext (.t 48) 0, none, none, []⟩,
     ⟨some 54, .ext (.t 48) 1, none, none, []⟩,
     ⟨some 14, .mv (.t 53), none, none, []⟩,
     ⟨some 15, .mv (.t 54), none, none, []⟩] false [7, 8, 9, 11, 12, 14, 15] []) (
  .seq (
   .reg [⟨some 55, .mv (.t 8), none, none, []⟩,
     ⟨some 56, .mv (.t 11), none, none, []⟩,
     ⟨some 57, .call (.c (.fn 17 [])) [.t 55, .t 56] none none, none, none, []⟩,
     ⟨some 58, .call (.c (.fn 16 [])) [.t 57] none none, none, none, []⟩,
     ⟨some 16, .mv (.t 58), none, none, []⟩] false [7, 8, 9, 12, 14, 15, 16] []) (
  .seq (
   .reg [⟨some 59, .mv (.t 8), none, none, []⟩,
     ⟨some 60, .call (.c (.fn 18 [])) [.t 59] none none, none, none, []⟩,
     ⟨some 61, .call (.c (.fn 16 [])) [.t 60] none none, none, none, []⟩,
     ⟨some 17, .mv (.t 61), none, none, []⟩] false [7, 8, 9, 12, 14, 15, 16, 17] []) (
  .seq (
   .reg [⟨some 62, .mv (.t 8), none, none, []⟩,
     ⟨some 63, .mv (.t 14), none, none, []⟩,
     ⟨some 64, .call (.c (.fn 13 [])) [.t 62, .t 63] none none, none, none, []⟩,
     ⟨some 65, .call (.c (.fn 19 [])) [.t 64] none none, none, none, []⟩,
     ⟨some 18, .mv (.t 65), none, none, []⟩] false [7, 8, 9, 12, 14, 15, 16, 17, 18] []) (
  .seq (
   .reg [⟨some 66, .mv (.t 8), none, none, []⟩,
     ⟨some 67, .mv (.t 14), none, none, []⟩,
     ⟨some 68, .call (.c (.fn 20 [])) [.t 66, .t 67] none none, none, none, []⟩,
     ⟨some 69, .call (.c (.fn 21 [])) [.t 68] none none, none, none, []⟩,
     ⟨some 19, .mv (.t 69), none, none, []⟩] false [7, 8, 9, 12, 15, 16, 17, 18, 19] []) (
  .seq (
   .reg [⟨some 70, .mv (.t 8), none, none, []⟩,
     ⟨some 71, .call (.c (.fn 22 [])) [.t 70] none none, none, none, []⟩,
     ⟨some 20, .mv (.t 71), none, none, []⟩] false [7, 9, 12, 15, 16, 17, 18, 19, 20] []) (
  .seq (
   .reg [⟨some 72, .mv (.t 7), none, none, []⟩,
     ⟨some 73, .mv (.t 72), none, none, []⟩,
     ⟨some 74, .mv (.t 16), (some (73, true)), none, []⟩,
     ⟨some 75, .mv (.t 9), (some (73, true)), none, []⟩,
     ⟨some 76, .mv (.t 12), (some (73, true)), none, []⟩,
     ⟨some 77, .call (.c (.fn 24 [])) [.t 75, .t 76] none none, (some (73, true)), none, []⟩,
     ⟨some 78, .call (.c (.fn 23 [])) [.t 77] none none, (some (73, true)), none, []⟩,
     ⟨some 79, .bin 2 .eql (.t 74) (.t 78), (some (73, true)), none, []⟩,
     ⟨some 80, .pick (.t 73) (.t 79) (.c (.bool false)), none, none, []⟩,
     ⟨some 81, .mv (.t 80), none, none, []⟩,
     ⟨some 82, .mv (.t 17), (some (81, true)), none, []⟩,
     ⟨some 83, .mv (.t 9), (some (81, true)), none, []⟩,
     ⟨some 84, .call (.c (.fn 25 [])) [.t 83] none none, (some (81, true)), none, []⟩,
     ⟨some 85, .call (.c (.fn 23 [])) [.t 84] none none, (some (81, true)), none, []⟩,
     ⟨some 86, .bin 2 .eql (.t 82) (.t 85), (some (81, true)), none, []⟩,
     ⟨some 87, .pick (.t 81) (.t 86) (.c (.bool false)), none, none, []⟩,
     ⟨some 88, .mv (.t 87), none, none, []⟩,
     ⟨some 89, .mv (.t 18), (some (88, true)), none, []⟩,
     ⟨some 90, .mv (.t 9), (some (88, true)), none, []⟩,
     ⟨some 91, .mv (.t 15), (some (88, true)), none, []⟩,
     ⟨some 92, .call (.c (.fn 27 [])) [.t 90, .t 91] none none, (some (88, true)), none, []⟩,
     ⟨some 93, .call (.c (.fn 26 [])) [.t 92] none none, (some (88, true)), none, []⟩,
     ⟨some 94, .bin 2 .eql (.t 89) (.t 93), (some (88, true)), none, []⟩,
     ⟨some 95, .pick (.t 88) (.t 94) (.c (.bool false)), none, none, []⟩,
     ⟨some 96, .mv (.t 95), none, none, []⟩,
     ⟨some 97, .mv (.t 19), (some (96, true)), none, []⟩,
     ⟨some 98, .mv (.t 9), (some (96, true)), none, []⟩,
     ⟨some 99, .mv (.t 15), (some (96, true)), none, []⟩,
     ⟨some 100, .call (.c (.fn 28 [])) [.t 98, .t 99] none none, (some (96, true)), none, []⟩,
     ⟨some 101, .call (.c (.fn 29 [])) [.t 100] none none, (some (96, true)), none, []⟩,
     ⟨some 102, .bin 2 .eql (.t 97) (.t 101), (some (96, true)), none, []⟩,
     ⟨some 103, .pick (.t 96) (.t 102) (.c (.bool false)), none, none, []⟩,
     ⟨some 104, .mv (.t 103), none, none, []⟩,
     ⟨some 105, .mv (.t 20), (some (104, true)), none, []⟩,
     ⟨some 106, .mv (.t 9), (some (104, true)), none, []⟩,
     ⟨some 107, .call (.c (.fn 30 [])) [.t 106] none none, (some (104, true)), none, []⟩,
     ⟨some 108, .bin 1 .eql (.t 105) (.t 107), (some (104, true)), none, []⟩,
     ⟨some 109, .pick (.t 104) (.t 108) (.c (.bool false)), none, none, []⟩,
     ⟨some 6, .mv (.t 109), none, none, []⟩] false [6] []) (
  .ret)))))))
def C_law07_LinReckons : PCode :=
  .seq (
   .reg [⟨some 6, .mv (.c (.bool false)), none, none, []⟩] false [0, 1, 2] []) (
  .seq (
   .reg [⟨some 21, .call (.c (.fn 7 [])) [] none none, none, none, []⟩,
     ⟨some 7, .mv (.t 21), none, none, []⟩] false [0, 1, 2, 7] []) (
  .seq (
   .reg [⟨some 23, .mv (.t 0), none, none, []⟩,
     ⟨some 24, .call (.c (.fn 8 [])) [.t 23, .c (.int .i64 5)] none none, none, none, []⟩,
     ⟨some 22, .mv (.t 24), none, none, []⟩,
     ⟨some 25, .ext (.t 22) 0, none, none, []⟩,
     ⟨some 26, .ext (.t 22) 1, none, none, []⟩,
     ⟨some 27, .ext (.t 22) 2, none, none, []⟩,
     ⟨some 8, .mv (.t 25), none, none, []⟩,
     ⟨some 9, .mv (.t 26), none, none, []⟩,
     ⟨some 10, .mv (.t 27), none, none, []⟩] false [1, 2, 7, 8, 9, 10] []) (
  .seq (
   .reg [⟨some 29, .mv (.t 1), none, none, []⟩,
     ⟨some 30, .call (.c (.fn 8 [])) [.t 29, .c (.int .i64 5)] none none, none, none, []⟩,
     ⟨some 28, .mv (.t 30), none, none, []⟩,
     ⟨some 31, .ext (.t 28) 0, none, none, []⟩,
     ⟨some 32, .ext (.t 28) 1, none, none, []⟩,
     ⟨some 33, .ext (.t 28) 2, none, none, []⟩,
     ⟨some 11, .mv (.t 31), none, none, []⟩,
     ⟨some 12, .mv (.t 32), none, none, []⟩,
     ⟨some 13, .mv (.t 33), none, none, []⟩] false [2, 7, 8, 9, 10, 11, 12, 13] []) (
  .seq (
   .seq (
    .reg [⟨some 34, .mv (.t 10), none, none, []⟩,
      ⟨some 35, .un .not (.t 34), none, none, []⟩,
      ⟨some 36, .mv (.t 35), none, none, []⟩,
      ⟨some 37, .mv (.t 13), (some (36, false)), none, []⟩,
      ⟨some 38, .un .not (.t 37), (some (36, false)), none, []⟩,
      ⟨some 39, .pick (.t 36) (.c (.bool true)) (.t 38), none, none, []⟩,
      ⟨some 40, .mv (.t 39), none, none, []⟩,
      ⟨some 41, .mv (.t 8), (some (40, false)), none, []⟩,
      ⟨some 42, .len false (.t 41), (some (40, false)), none, []⟩,
      ⟨some 43, .mv (.t 11), (some (40, false)), none, []⟩,
      ⟨some 44, .len false (.t 43), (some (40, false)), none, []⟩,
      ⟨some 45, .bin 0 .neq (.t 42) (.t 44), (some (40, false)), none, []⟩,
      ⟨some 46, .pick (.t 40) (.c (.bool true)) (.t 45), none, none, []⟩] false [2, 7, 8, 9, 11, 12, 46] []) (
   .cond (.t 46) (
    .seq (
     .reg [⟨some 47, .mv (.t 7), none, none, []⟩,
       ⟨some 6, .mv (.t 47), none, none, []⟩] false [6] []) (
    .ret)) (
    .skip))) T_law07_LinReckons_0))))
def D_law07_LinReckons : PFunc := ⟨3, [.tmp 6], false, C_law07_LinReckons⟩
abbrev F_law07_LinReckons : Nat := 4

/-- gimbal/gimballaw07.LinRules -/
def T_law07_LinRules_0 : PCode :=
  .seq (
   .block 1 (
    .seq (
     .reg [⟨some 108, .mv (.t 21), none, none, []⟩,
       ⟨some 109, .lits 110 2 0 [], none, none, []⟩,
       ⟨some 110, .mv (.t 12), none, none, []⟩,
       ⟨some 111, .mv (.t 23), none, none, []⟩,
       ⟨some 112, .idx 1 (.t 110) (.t 111), none, none, []⟩,
       ⟨some 113, .load 1 false (.t 112), none, none, []⟩,
       ⟨some 114, .app 115 2 32 (.t 109) (.t 113), none, none, []⟩,
       ⟨some 115, .lits 116 1 1 [.t 114], none, none, []⟩,
       ⟨some 116, .app 22 1 24 (.t 108) (.t 115), none, none, []⟩,
       ⟨some 21, .mv (.t 116), none, none, []⟩] false [2, 3, 4, 11, 12, 18, 19, 20, 21, 22, 23] [19, 22, 23, 115]) (
    .reg [⟨some 117, .mv (.t 22), none, none, []⟩,
      ⟨some 118, .mv (.t 12), none, none, []⟩,
      ⟨some 119, .mv (.t 23), none, none, []⟩,
      ⟨some 120, .idx 1 (.t 118) (.t 119), none, none, []⟩,
      ⟨some 121, .load 1 false (.t 120), none, none, []⟩,
      ⟨some 122, .lits 123 1 1 [.t 121], none, none, []⟩,
      ⟨some 123, .app 23 1 24 (.t 117) (.t 122), none, none, []⟩,
      ⟨some 22, .mv (.t 123), none, none, []⟩] false [2, 3, 4, 11, 12, 18, 19, 20, 21, 22, 23] [19, 22, 23, 115]))) (
  .reg [⟨some 106, .mv (.t 23), none, none, []⟩,
    ⟨some 107, .bin 0 .add (.t 106) (.c (.int .i64 1)), none, none, []⟩,
    ⟨some 23, .mv (.t 107), none, none, []⟩] false [2, 3, 4, 11, 12, 18, 19, 20, 21, 22, 23] [19, 22, 23, 115])
def B_law07_LinRules_1 : PCode :=
  .seq (
   .seq (
    .reg [⟨some 102, .mv (.t 23), none, none, []⟩,
      ⟨some 103, .mv (.t 12), none, none, []⟩,
      ⟨some 104, .len false (.t 103), none, none, []⟩,
      ⟨some 105, .bin 0 .lss (.t 102) (.t 104), none, none, []⟩] false [2, 3, 4, 11, 12, 18, 19, 20, 21, 22, 23, 105] [19, 22, 23, 115]) (
   .cond (.t 105) (
    .skip) (
    .exit 0))) T_law07_LinRules_0
def T_law07_LinRules_2 : PCode :=
  .seq (
   .block 3 (
    .reg [⟨some 130, .mv (.t 21), none, none, []⟩,
      ⟨some 131, .mv (.t 2), none, none, []⟩,
      ⟨some 132, .idx 1 (.t 130) (.t 131), none, none, []⟩,
      ⟨some 133, .load 1 false (.t 132), none, none, []⟩,
      ⟨some 134, .mv (.t 24), none, none, []⟩,
      ⟨some 135, .mv (.t 12), none, none, []⟩,
      ⟨some 136, .mv (.t 2), none, none, []⟩,
      ⟨some 137, .idx 1 (.t 135) (.t 136), none, none, []⟩,
      ⟨some 138, .load 1 false (.t 137), none, none, []⟩,
      ⟨some 139, .mv (.t 24), none, none, []⟩,
      ⟨some 140, .idx 2 (.t 138) (.t 139), none, none, []⟩,
      ⟨some 141, .load 2 true (.t 140), none, none, []⟩,
      ⟨some 142, .mv (.t 12), none, none, []⟩,
      ⟨some 143, .mv (.t 3), none, none, []⟩,
      ⟨some 144, .idx 1 (.t 142) (.t 143), none, none, []⟩,
      ⟨some 145, .load 1 false (.t 144), none, none, []⟩,
      ⟨some 146, .mv (.t 24), none, none, []⟩,
      ⟨some 147, .idx 2 (.t 145) (.t 146), none, none, []⟩,
      ⟨some 148, .load 2 true (.t 147), none, none, []⟩,
      ⟨some 149, .mv (.t 4), none, none, []⟩,
      ⟨some 150, .call (.c (.fn 32 [])) [.t 149] none none, none, none, []⟩,
      ⟨some 151, .call (.c (.fn 15 [])) [.t 148, .t 150] none none, none, none, []⟩,
      ⟨some 152, .call (.c (.fn 31 [])) [.t 141, .t 151] none none, none, none, []⟩,
      ⟨some 153, .idx 2 (.t 133) (.t 134), none, none, []⟩,
      ⟨none, .store 2 (.t 153) (.t 152), none, none, []⟩] true [2, 3, 4, 11, 12, 18, 19, 20, 21, 22, 24] [19, 22, 23, 115])) (
  .reg [⟨some 128, .mv (.t 24), none, none, []⟩,
    ⟨some 129, .bin 0 .add (.t 128) (.c (.int .i64 1)), none, none, []⟩,
    ⟨some 24, .mv (.t 129), none, none, []⟩] false [2, 3, 4, 11, 12, 18, 19, 20, 21, 22, 24] [19, 22, 23, 115])
def B_law07_LinRules_3 : PCode :=
  .seq (
   .seq (
    .reg [⟨some 124, .mv (.t 24), none, none, []⟩,
      ⟨some 125, .mv (.t 12), none, none, []⟩,
      ⟨some 126, .len false (.t 125), none, none, []⟩,
      ⟨some 127, .bin 0 .lss (.t 124) (.t 126), none, none, []⟩] false [2, 3, 4, 11, 12, 18, 19, 20, 21, 22, 24, 127] [19, 22, 23, 115]) (
   .cond (.t 127) (
    .skip) (
    .exit 2))) T_law07_LinRules_2
def T_law07_LinRules_4 : PCode :=
  .seq (
   .reg [⟨some 154, .mv (.t 22), none, none, []⟩,
     ⟨some 155, .mv (.t 2), none, none, []⟩,
     ⟨some 156, .mv (.t 12), none, none, []⟩,
     ⟨some 157, .mv (.t 3), none, none, []⟩,
     ⟨some 158, .idx 1 (.t 156) (.t 157), none, none, []⟩,
     ⟨some 159, .load 1 false (.t 158), none, none, []⟩,
     ⟨some 160, .idx 1 (.t 154) (.t 155), none, none, []⟩,
     ⟨none, .storeRow (.t 160) (.t 159), none, none, []⟩] false [2, 3, 11, 12, 18, 19, 20, 21, 22] [19, 22, 23, 115]) (
  .seq (
   .reg [⟨some 161, .mv (.t 22), none, none, []⟩,
     ⟨some 162, .mv (.t 3), none, none, []⟩,
     ⟨some 163, .mv (.t 12), none, none, []⟩,
     ⟨some 164, .mv (.t 2), none, none, []⟩,
     ⟨some 165, .idx 1 (.t 163) (.t 164), none, none, []⟩,
     ⟨some 166, .load 1 false (.t 165), none, none, []⟩,
     ⟨some 167, .idx 1 (.t 161) (.t 162), none, none, []⟩,
     ⟨none, .storeRow (.t 167) (.t 166), none, none, []⟩] false [11, 18, 19, 20, 21, 22] [19, 22, 23, 115]) (
  .seq (
   .reg [⟨some 168, .mv (.t 21), none, none, []⟩,
     ⟨some 169, .call (.c (.fn 11 [])) [.t 168] none none, none, none, []⟩,
     ⟨some 170, .load 2 true (.t 18), none, none, []⟩,
     ⟨some 171, .call (.c (.fn 14 [])) [.t 169, .t 170] none none, none, none, []⟩,
     ⟨some 25, .mv (.t 171), none, none, []⟩] true [11, 18, 19, 20, 22, 25] [19, 23]) (
  .seq (
   .reg [⟨some 172, .mv (.t 22), none, none, []⟩,
     ⟨some 173, .call (.c (.fn 11 [])) [.t 172] none none, none, none, []⟩,
     ⟨some 174, .load 2 true (.t 18), none, none, []⟩,
     ⟨some 175, .call (.c (.fn 33 [])) [.t 174] none none, none, none, []⟩,
     ⟨some 176, .call (.c (.fn 14 [])) [.t 173, .t 175] none none, none, none, []⟩,
     ⟨some 26, .mv (.t 176), none, none, []⟩] true [11, 19, 20, 25, 26] []) (
  .seq (
   .reg [⟨some 177, .mv (.t 11), none, none, []⟩,
     ⟨some 178, .mv (.t 177), none, none, []⟩,
     ⟨some 179, .mv (.t 19), (some (178, true)), none, []⟩,
     ⟨some 180, .bin 0 .eql (.t 179) (.c (.int .i64 0)), (some (178, true)), none, []⟩,
     ⟨some 181, .pick (.t 178) (.t 180) (.c (.bool false)), none, none, []⟩,
     ⟨some 182, .mv (.t 181), none, none, []⟩,
     ⟨some 183, .mv (.t 20), (some (182, true)), none, []⟩,
     ⟨some 184, .bin 0 .eql (.t 183) (.c (.int .i64 0)), (some (182, true)), none, []⟩,
     ⟨some 185, .pick (.t 182) (.t 184) (.c (.bool false)), none, none, []⟩,
     ⟨some 186, .mv (.t 185), none, none, []⟩,
     ⟨some 187, .mv (.t 25), (some (186, true)), none, []⟩,
     ⟨some 188, .bin 0 .eql (.t 187) (.c (.int .i64 0)), (some (186, true)), none, []⟩,
     ⟨some 189, .pick (.t 186) (.t 188) (.c (.bool false)), none, none, []⟩,
     ⟨some 190, .mv (.t 189), none, none, []⟩,
     ⟨some 191, .mv (.t 26), (some (190, true)), none, []⟩,
     ⟨some 192, .bin 0 .eql (.t 191) (.c (.int .i64 0)), (some (190, true)), none, []⟩,
     ⟨some 193, .pick (.t 190) (.t 192) (.c (.bool false)), none, none, []⟩,
     ⟨some 10, .mv (.t 193), none, none, []⟩] false [10] []) (
  .ret)))))
def T_law07_LinRules_5 : PCode :=
  .seq (
   .seq (
    .reg [⟨some 24, .mv (.c (.int .i64 0)), none, none, []⟩] false [2, 3, 4, 11, 12, 18, 19, 20, 21, 22, 24] [19, 22, 23, 115]) (
   .block 2 (
    .loop B_law07_LinRules_3))) T_law07_LinRules_4
def T_law07_LinRules_6 : PCode :=
  .seq (
   .reg [⟨some 21, .nils 22 1, none, none, []⟩] false [2, 3, 4, 11, 12, 18, 19, 20, 21] [19, 22, 115]) (
  .seq (
   .reg [⟨some 22, .nils 23 1, none, none, []⟩] false [2, 3, 4, 11, 12, 18, 19, 20, 21, 22] [19, 22, 23, 115]) (
  .seq (
   .seq (
    .reg [⟨some 23, .mv (.c (.int .i64 0)), none, none, []⟩] false [2, 3, 4, 11, 12, 18, 19, 20, 21, 22, 23] [19, 22, 23, 115]) (
   .block 0 (
    .loop B_law07_LinRules_1))) T_law07_LinRules_5))
def T_law07_LinRules_7 : PCode :=
  .seq (
   .reg [⟨some 54, .mv (.t 12), none, none, []⟩,
     ⟨some 55, .call (.c (.fn 11 [])) [.t 54] none none, none, none, []⟩,
     ⟨some 18, .alloc 19 [.bool false, .nil0] [], none, none, []⟩,
     ⟨none, .store 2 (.t 18) (.t 55), none, none, []⟩] false [2, 3, 4, 11, 12, 15, 18] [19]) (
  .seq (
   .reg [⟨some 56, .mv (.t 12), none, none, []⟩,
     ⟨some 57, .mv (.t 15), none, none, []⟩,
     ⟨some 58, .call (.c (.fn 17 [])) [.t 56, .t 57] none none, none, none, []⟩,
     ⟨some 59, .call (.c (.fn 11 [])) [.t 58] none none, none, none, []⟩,
     ⟨some 60, .load 2 true (.t 18), none, none, []⟩,
     ⟨some 61, .mv (.t 15), none, none, []⟩,
     ⟨some 62, .call (.c (.fn 11 [])) [.t 61] none none, none, none, []⟩,
     ⟨some 63, .call (.c (.fn 15 [])) [.t 60, .t 62] none none, none, none, []⟩,
     ⟨some 64, .call (.c (.fn 14 [])) [.t 59, .t 63] none none, none, none, []⟩,
     ⟨some 19, .mv (.t 64), none, none, []⟩] true [2, 3, 4, 11, 12, 18, 19] [19]) (
  .seq (
   .reg [⟨some 65, .mv (.t 12), none, none, []⟩,
     ⟨some 66, .call (.c (.fn 18 [])) [.t 65] none none, none, none, []⟩,
     ⟨some 67, .call (.c (.fn 11 [])) [.t 66] none none, none, none, []⟩,
     ⟨some 68, .load 2 true (.t 18), none, none, []⟩,
     ⟨some 69, .call (.c (.fn 14 [])) [.t 67, .t 68] none none, none, none, []⟩,
     ⟨some 20, .mv (.t 69), none, none, []⟩] true [2, 3, 4, 11, 12, 18, 19, 20] [19]) (
  .seq (
   .seq (
    .reg [⟨some 70, .mv (.t 2), none, none, []⟩,
      ⟨some 71, .bin 0 .lss (.t 70) (.c (.int .i64 0)), none, none, []⟩,
      ⟨some 72, .mv (.t 71), none, none, []⟩,
      ⟨some 73, .mv (.t 3), (some (72, false)), none, []⟩,
      ⟨some 74, .bin 0 .lss (.t 73) (.c (.int .i64 0)), (some (72, false)), none, []⟩,
      ⟨some 75, .pick (.t 72) (.c (.bool true)) (.t 74), none, none, []⟩,
      ⟨some 76, .mv (.t 75), none, none, []⟩,
      ⟨some 77, .mv (.t 2), (some (76, false)), none, []⟩,
      ⟨some 78, .mv (.t 12), (some (76, false)), none, []⟩,
      ⟨some 79, .len false (.t 78), (some (76, false)), none, []⟩,
      ⟨some 80, .bin 0 .geq (.t 77) (.t 79), (some (76, false)), none, []⟩,
      ⟨some 81, .pick (.t 76) (.c (.bool true)) (.t 80), none, none, []⟩,
      ⟨some 82, .mv (.t 81), none, none, []⟩,
      ⟨some 83, .mv (.t 3), (some (82, false)), none, []⟩,
      ⟨some 84, .mv (.t 12), (some (82, false)), none, []⟩,
      ⟨some 85, .len false (.t 84), (some (82, false)), none, []⟩,
      ⟨some 86, .bin 0 .geq (.t 83) (.t 85), (some (82, false)), none, []⟩,
      ⟨some 87, .pick (.t 82) (.c (.bool true)) (.t 86), none, none, []⟩,
      ⟨some 88, .mv (.t 87), none, none, []⟩,
      ⟨some 89, .mv (.t 2), (some (88, false)), none, []⟩,
      ⟨some 90, .mv (.t 3), (some (88, false)), none, []⟩,
      ⟨some 91, .bin 0 .eql (.t 89) (.t 90), (some (88, false)), none, []⟩,
      ⟨some 92, .pick (.t 88) (.c (.bool true)) (.t 91), none, none, []⟩] false [2, 3, 4, 11, 12, 18, 19, 20, 92] [19]) (
   .cond (.t 92) (
    .seq (
     .reg [⟨some 93, .mv (.t 11), none, none, []⟩,
       ⟨some 94, .mv (.t 93), none, none, []⟩,
       ⟨some 95, .mv (.t 19), (some (94, true)), none, []⟩,
       ⟨some 96, .bin 0 .eql (.t 95) (.c (.int .i64 0)), (some (94, true)), none, []⟩,
       ⟨some 97, .pick (.t 94) (.t 96) (.c (.bool false)), none, none, []⟩,
       ⟨some 98, .mv (.t 97), none, none, []⟩,
       ⟨some 99, .mv (.t 20), (some (98, true)), none, []⟩,
       ⟨some 100, .bin 0 .eql (.t 99) (.c (.int .i64 0)), (some (98, true)), none, []⟩,
       ⟨some 101, .pick (.t 98) (.t 100) (.c (.bool false)), none, none, []⟩,
       ⟨some 10, .mv (.t 101), none, none, []⟩] false [10] []) (
    .ret)) (
    .skip))) T_law07_LinRules_6)))
def C_law07_LinRules : PCode :=
  .seq (
   .reg [⟨some 10, .mv (.c (.bool false)), none, none, []⟩] false [0, 1, 2, 3, 4] []) (
  .seq (
   .reg [⟨some 27, .call (.c (.fn 7 [])) [] none none, none, none, []⟩,
     ⟨some 11, .mv (.t 27), none, none, []⟩] false [0, 1, 2, 3, 4, 11] []) (
  .seq (
   .reg [⟨some 29, .mv (.t 0), none, none, []⟩,
     ⟨some 30, .call (.c (.fn 8 [])) [.t 29, .c (.int .i64 7)] none none, none, none, []⟩,
     ⟨some 28, .mv (.t 30), none, none, []⟩,
     ⟨some 31, .ext (.t 28) 0, none, none, []⟩,
     ⟨some 32, .ext (.t 28) 1, none, none, []⟩,
     ⟨some 33, .ext (.t 28) 2, none, none, []⟩,
     ⟨some 12, .mv (.t 31), none, none, []⟩,
     ⟨some 13, .mv (.t 32), none, none, []⟩,
     ⟨some 14, .mv (.t 33), none, none, []⟩] false [1, 2, 3, 4, 11, 12, 14] []) (
  .seq (
   .reg [⟨some 35, .mv (.t 1), none, none, []⟩,
     ⟨some 36, .call (.c (.fn 8 [])) [.t 35, .c (.int .i64 7)] none none, none, none, []⟩,
     ⟨some 34, .mv (.t 36), none, none, []⟩,
     ⟨some 37, .ext (.t 34) 0, none, none, []⟩,
     ⟨some 38, .ext (.t 34) 1, none, none, []⟩,
     ⟨some 39, .ext (.t 34) 2, none, none, []⟩,
     ⟨some 15, .mv (.t 37), none, none, []⟩,
     ⟨some 16, .mv (.t 38), none, none, []⟩,
     ⟨some 17, .mv (.t 39), none, none, []⟩] false [2, 3, 4, 11, 12, 14, 15, 17] []) (
  .seq (
   .seq (
    .reg [⟨some 40, .mv (.t 14), none, none, []⟩,
      ⟨some 41, .un .not (.t 40), none, none, []⟩,
      ⟨some 42, .mv (.t 41), none, none, []⟩,
      ⟨some 43, .mv (.t 17), (some (42, false)), none, []⟩,
      ⟨some 44, .un .not (.t 43), (some (42, false)), none, []⟩,
      ⟨some 45, .pick (.t 42) (.c (.bool true)) (.t 44), none, none, []⟩,
      ⟨some 46, .mv (.t 45), none, none, []⟩,
      ⟨some 47, .mv (.t 12), (some (46, false)), none, []⟩,
      ⟨some 48, .len false (.t 47), (some (46, false)), none, []⟩,
      ⟨some 49, .mv (.t 15), (some (46, false)), none, []⟩,
      ⟨some 50, .len false (.t 49), (some (46, false)), none, []⟩,
      ⟨some 51, .bin 0 .neq (.t 48) (.t 50), (some (46, false)), none, []⟩,
      ⟨some 52, .pick (.t 46) (.c (.bool true)) (.t 51), none, none, []⟩] false [2, 3, 4, 11, 12, 15, 52] []) (
   .cond (.t 52) (
    .seq (
     .reg [⟨some 53, .mv (.t 11), none, none, []⟩,
       ⟨some 10, .mv (.t 53), none, none, []⟩] false [10] []) (
    .ret)) (
    .skip))) T_law07_LinRules_7))))
def D_law07_LinRules : PFunc := ⟨5, [.tmp 10], false, C_law07_LinRules⟩
abbrev F_law07_LinRules : Nat := 5

/-- gimbal/gimballaw07.LinDefinite -/
def T_law07_LinDefinite_0 : PCode :=
  .seq (
   .block 1 (
    .seq (
     .reg [⟨some 45, .mv (.t 9), none, none, []⟩,
       ⟨some 46, .mv (.t 12), none, none, []⟩,
       ⟨some 47, .idx 2 (.t 45) (.t 46), none, none, []⟩,
       ⟨some 48, .load 2 true (.t 47), none, none, []⟩,
       ⟨some 49, .call (.c (.fn 12 [])) [.t 48] none none, none, none, []⟩,
       ⟨some 13, .mv (.t 49), none, none, []⟩] false [5, 6, 9, 11, 12, 13] []) (
    .reg [⟨some 50, .mv (.t 11), none, none, []⟩,
      ⟨some 51, .mv (.t 50), none, none, []⟩,
      ⟨some 52, .mv (.t 13), (some (51, false)), none, []⟩,
      ⟨some 53, .bin 0 .neq (.t 52) (.c (.int .i64 0)), (some (51, false)), none, []⟩,
      ⟨some 54, .pick (.t 51) (.c (.bool true)) (.t 53), none, none, []⟩,
      ⟨some 11, .mv (.t 54), none, none, []⟩] false [5, 6, 9, 11, 12] []))) (
  .reg [⟨some 43, .mv (.t 12), none, none, []⟩,
    ⟨some 44, .bin 0 .add (.t 43) (.c (.int .i64 1)), none, none, []⟩,
    ⟨some 12, .mv (.t 44), none, none, []⟩] false [5, 6, 9, 11, 12] [])
def B_law07_LinDefinite_1 : PCode :=
  .seq (
   .seq (
    .reg [⟨some 39, .mv (.t 12), none, none, []⟩,
      ⟨some 40, .mv (.t 9), none, none, []⟩,
      ⟨some 41, .len false (.t 40), none, none, []⟩,
      ⟨some 42, .bin 0 .lss (.t 39) (.t 41), none, none, []⟩] false [5, 6, 9, 11, 12, 42] []) (
   .cond (.t 42) (
    .skip) (
    .exit 0))) T_law07_LinDefinite_0
def T_law07_LinDefinite_2 : PCode :=
  .seq (
   .block 3 (
    .seq (
     .reg [⟨some 65, .mv (.t 15), none, none, []⟩,
       ⟨some 66, .lits 67 2 0 [], none, none, []⟩,
       ⟨some 67, .mv (.t 14), none, none, []⟩,
       ⟨some 68, .mv (.t 16), none, none, []⟩,
       ⟨some 69, .idx 1 (.t 67) (.t 68), none, none, []⟩,
       ⟨some 70, .load 1 false (.t 69), none, none, []⟩,
       ⟨some 71, .app 72 2 32 (.t 66) (.t 70), none, none, []⟩,
       ⟨some 72, .lits 73 1 1 [.t 71], none, none, []⟩,
       ⟨some 73, .app 16 1 24 (.t 65) (.t 72), none, none, []⟩,
       ⟨some 15, .mv (.t 73), none, none, []⟩] false [5, 6, 9, 11, 14, 15, 16] [16, 72]) (
    .reg [⟨some 74, .mv (.t 15), none, none, []⟩,
      ⟨some 75, .mv (.t 16), none, none, []⟩,
      ⟨some 76, .idx 1 (.t 74) (.t 75), none, none, []⟩,
      ⟨some 77, .load 1 false (.t 76), none, none, []⟩,
      ⟨some 78, .mv (.t 16), none, none, []⟩,
      ⟨some 79, .mv (.t 14), none, none, []⟩,
      ⟨some 80, .mv (.t 16), none, none, []⟩,
      ⟨some 81, .idx 1 (.t 79) (.t 80), none, none, []⟩,
      ⟨some 82, .load 1 false (.t 81), none, none, []⟩,
      ⟨some 83, .mv (.t 16), none, none, []⟩,
      ⟨some 84, .idx 2 (.t 82) (.t 83), none, none, []⟩,
      ⟨some 85, .load 2 true (.t 84), none, none, []⟩,
      ⟨some 86, .call (.c (.fn 32 [])) [.c (.int .i64 1)] none none, none, none, []⟩,
      ⟨some 87, .call (.c (.fn 31 [])) [.t 85, .t 86] none none, none, none, []⟩,
      ⟨some 88, .idx 2 (.t 77) (.t 78), none, none, []⟩,
      ⟨none, .store 2 (.t 88) (.t 87), none, none, []⟩] true [5, 6, 9, 11, 14, 15, 16] [16, 72]))) (
  .reg [⟨some 63, .mv (.t 16), none, none, []⟩,
    ⟨some 64, .bin 0 .add (.t 63) (.c (.int .i64 1)), none, none, []⟩,
    ⟨some 16, .mv (.t 64), none, none, []⟩] false [5, 6, 9, 11, 14, 15, 16] [16, 72])
def B_law07_LinDefinite_3 : PCode :=
  .seq (
   .seq (
    .reg [⟨some 59, .mv (.t 16), none, none, []⟩,
      ⟨some 60, .mv (.t 14), none, none, []⟩,
      ⟨some 61, .len false (.t 60), none, none, []⟩,
      ⟨some 62, .bin 0 .lss (.t 59) (.t 61), none, none, []⟩] false [5, 6, 9, 11, 14, 15, 16, 62] [16, 72]) (
   .cond (.t 62) (
    .skip) (
    .exit 2))) T_law07_LinDefinite_2
def T_law07_LinDefinite_4 : PCode :=
  .seq (
   .reg [⟨some 89, .mv (.t 15), none, none, []⟩,
     ⟨some 90, .call (.c (.fn 22 [])) [.t 89] none none, none, none, []⟩,
     ⟨some 17, .mv (.t 90), none, none, []⟩] false [5, 6, 9, 11, 15, 17] [16, 72]) (
  .seq (
   .reg [⟨some 91, .mv (.t 15), none, none, []⟩,
     ⟨some 92, .mv (.t 9), none, none, []⟩,
     ⟨some 93, .call (.c (.fn 20 [])) [.t 91, .t 92] none none, none, none, []⟩,
     ⟨some 94, .call (.c (.fn 12 [])) [.t 93] none none, none, none, []⟩,
     ⟨some 18, .mv (.t 94), none, none, []⟩] false [5, 6, 9, 11, 15, 17, 18] [16, 72]) (
  .seq (
   .reg [⟨some 95, .mv (.t 15), none, none, []⟩,
     ⟨some 96, .call (.c (.fn 11 [])) [.t 95] none none, none, none, []⟩,
     ⟨some 97, .call (.c (.fn 12 [])) [.t 96] none none, none, none, []⟩,
     ⟨some 19, .mv (.t 97), none, none, []⟩] false [5, 6, 9, 11, 17, 18, 19] []) (
  .seq (
   .reg [⟨some 98, .mv (.t 6), none, none, []⟩,
     ⟨some 99, .call (.c (.fn 22 [])) [.t 98] none none, none, none, []⟩,
     ⟨some 20, .mv (.t 99), none, none, []⟩] false [5, 6, 9, 11, 17, 18, 19, 20] []) (
  .seq (
   .reg [⟨some 100, .mv (.t 6), none, none, []⟩,
     ⟨some 101, .mv (.t 9), none, none, []⟩,
     ⟨some 102, .call (.c (.fn 20 [])) [.t 100, .t 101] none none, none, none, []⟩,
     ⟨some 103, .call (.c (.fn 12 [])) [.t 102] none none, none, none, []⟩,
     ⟨some 21, .mv (.t 103), none, none, []⟩] false [5, 11, 17, 18, 19, 20, 21] []) (
  .seq (
   .reg [⟨some 104, .mv (.t 5), none, none, []⟩,
     ⟨some 105, .mv (.t 104), none, none, []⟩,
     ⟨some 106, .mv (.t 17), (some (105, true)), none, []⟩,
     ⟨some 107, .pick (.t 105) (.t 106) (.c (.bool false)), none, none, []⟩,
     ⟨some 108, .mv (.t 107), none, none, []⟩,
     ⟨some 109, .mv (.t 19), (some (108, true)), none, []⟩,
     ⟨some 110, .bin 0 .gtr (.t 109) (.c (.int .i64 0)), (some (108, true)), none, []⟩,
     ⟨some 111, .pick (.t 108) (.t 110) (.c (.bool false)), none, none, []⟩,
     ⟨some 112, .mv (.t 111), none, none, []⟩,
     ⟨some 113, .mv (.t 18), (some (112, true)), none, []⟩,
     ⟨some 114, .bin 0 .gtr (.t 113) (.c (.int .i64 0)), (some (112, true)), none, []⟩,
     ⟨some 115, .mv (.t 11), (some (112, true)), none, []⟩,
     ⟨some 116, .bin 1 .eql (.t 114) (.t 115), (some (112, true)), none, []⟩,
     ⟨some 117, .pick (.t 112) (.t 116) (.c (.bool false)), none, none, []⟩,
     ⟨some 118, .mv (.t 117), none, none, []⟩,
     ⟨some 119, .mv (.t 20), (some (118, true)), none, []⟩,
     ⟨some 120, .un .not (.t 119), (some (118, true)), none, []⟩,
     ⟨some 121, .mv (.t 120), (some (118, true)), none, []⟩,
     ⟨some 122, .mv (.t 11), (some (121, false)), none, []⟩,
     ⟨some 123, .un .not (.t 122), (some (121, false)), none, []⟩,
     ⟨some 124, .pick (.t 121) (.c (.bool true)) (.t 123), (some (118, true)), none, []⟩,
     ⟨some 125, .mv (.t 124), (some (118, true)), none, []⟩,
     ⟨some 126, .mv (.t 21), (some (125, false)), none, []⟩,
     ⟨some 127, .bin 0 .gtr (.t 126) (.c (.int .i64 0)), (some (125, false)), none, []⟩,
     ⟨some 128, .pick (.t 125) (.c (.bool true)) (.t 127), (some (118, true)), none, []⟩,
     ⟨some 129, .pick (.t 118) (.t 128) (.c (.bool false)), none, none, []⟩,
     ⟨some 4, .mv (.t 129), none, none, []⟩] false [4] []) (
  .ret))))))
def T_law07_LinDefinite_5 : PCode :=
  .seq (
   .reg [⟨some 55, .mv (.t 6), none, none, []⟩,
     ⟨some 56, .call (.c (.fn 18 [])) [.t 55] none none, none, none, []⟩,
     ⟨some 57, .mv (.t 6), none, none, []⟩,
     ⟨some 58, .call (.c (.fn 17 [])) [.t 56, .t 57] none none, none, none, []⟩,
     ⟨some 14, .mv (.t 58), none, none, []⟩] false [5, 6, 9, 11, 14] []) (
  .seq (
   .reg [⟨some 15, .nils 16 1, none, none, []⟩] false [5, 6, 9, 11, 14, 15] [16, 72]) (
  .seq (
   .seq (
    .reg [⟨some 16, .mv (.c (.int .i64 0)), none, none, []⟩] false [5, 6, 9, 11, 14, 15, 16] [16, 72]) (
   .block 2 (
    .loop B_law07_LinDefinite_3))) T_law07_LinDefinite_4))
def T_law07_LinDefinite_6 : PCode :=
  .seq (
   .reg [⟨some 33, .mv (.t 1), none, none, []⟩,
     ⟨some 34, .mv (.t 6), none, none, []⟩,
     ⟨some 35, .len false (.t 34), none, none, []⟩,
     ⟨some 36, .call (.c (.fn 9 [])) [.t 33, .t 35] none none, none, none, []⟩,
     ⟨some 32, .mv (.t 36), none, none, []⟩,
     ⟨some 37, .ext (.t 32) 0, none, none, []⟩,
     ⟨some 38, .ext (.t 32) 1, none, none, []⟩,
     ⟨some 9, .mv (.t 37), none, none, []⟩,
     ⟨some 10, .mv (.t 38), none, none, []⟩] false [5, 6, 9] []) (
  .seq (
   .reg [⟨some 11, .mv (.c (.bool false)), none, none, []⟩] false [5, 6, 9, 11] []) (
  .seq (
   .seq (
    .reg [⟨some 12, .mv (.c (.int .i64 0)), none, none, []⟩] false [5, 6, 9, 11, 12] []) (
   .block 0 (
    .loop B_law07_LinDefinite_1))) T_law07_LinDefinite_5))
def C_law07_LinDefinite : PCode :=
  .seq (
   .reg [⟨some 4, .mv (.c (.bool false)), none, none, []⟩] false [0, 1] []) (
  .seq (
   .reg [⟨some 22, .call (.c (.fn 7 [])) [] none none, none, none, []⟩,
     ⟨some 5, .mv (.t 22), none, none, []⟩] false [0, 1, 5] []) (
  .seq (
   .reg [⟨some 24, .mv (.t 0), none, none, []⟩,
     ⟨some 25, .call (.c (.fn 8 [])) [.t 24, .c (.int .i64 6)] none none, none, none, []⟩,
     ⟨some 23, .mv (.t 25), none, none, []⟩,
     ⟨some 26, .ext (.t 23) 0, none, none, []⟩,
     ⟨some 27, .ext (.t 23) 1, none, none, []⟩,
     ⟨some 28, .ext (.t 23) 2, none, none, []⟩,
     ⟨some 6, .mv (.t 26), none, none, []⟩,
     ⟨some 7, .mv (.t 27), none, none, []⟩,
     ⟨some 8, .mv (.t 28), none, none, []⟩] false [1, 5, 6, 8] []) (
  .seq (
   .seq (
    .reg [⟨some 29, .mv (.t 8), none, none, []⟩,
      ⟨some 30, .un .not (.t 29), none, none, []⟩] false [1, 5, 6, 30] []) (
   .cond (.t 30) (
    .seq (
     .reg [⟨some 31, .mv (.t 5), none, none, []⟩,
       ⟨some 4, .mv (.t 31), none, none, []⟩] false [4] []) (
    .ret)) (
    .skip))) T_law07_LinDefinite_6)))
def D_law07_LinDefinite : PFunc := ⟨2, [.tmp 4], false, C_law07_LinDefinite⟩
abbrev F_law07_LinDefinite : Nat := 6

/-- gimbal/gimballaw07.awake -/
def T_law07_awake_0 : PCode :=
  .seq (
   .reg [⟨some 81, .lits 82 1 2 [.c (.int .i64 1), .c (.int .i64 2)], none, none, []⟩,
     ⟨some 82, .call (.c (.fn 9 [])) [.t 81, .c (.int .i64 2)] none none, none, none, []⟩,
     ⟨some 80, .mv (.t 82), none, none, []⟩,
     ⟨some 83, .ext (.t 80) 0, none, none, []⟩,
     ⟨some 84, .ext (.t 80) 1, none, none, []⟩,
     ⟨some 9, .mv (.t 83), none, none, []⟩,
     ⟨some 10, .mv (.t 84), none, none, []⟩] false [1, 3, 5, 7, 9] []) (
  .seq (
   .reg [⟨some 86, .lits 87 1 2 [.c (.int .i64 1), .c (.int .i64 (-1))], none, none, []⟩,
     ⟨some 87, .call (.c (.fn 9 [])) [.t 86, .c (.int .i64 2)] none none, none, none, []⟩,
     ⟨some 85, .mv (.t 87), none, none, []⟩,
     ⟨some 88, .ext (.t 85) 0, none, none, []⟩,
     ⟨some 89, .ext (.t 85) 1, none, none, []⟩,
     ⟨some 11, .mv (.t 88), none, none, []⟩,
     ⟨some 12, .mv (.t 89), none, none, []⟩] false [1, 3, 5, 7, 9, 11] []) (
  .seq (
   .reg [⟨some 90, .mv (.t 1), none, none, []⟩,
     ⟨some 91, .call (.c (.fn 11 [])) [.t 90] none none, none, none, []⟩,
     ⟨some 92, .call (.c (.fn 21 [])) [.t 91] none none, none, none, []⟩,
     ⟨some 13, .mv (.t 92), none, none, []⟩] false [1, 3, 5, 7, 9, 11, 13] []) (
  .seq (
   .reg [⟨some 93, .mv (.t 3), none, none, []⟩,
     ⟨some 94, .call (.c (.fn 11 [])) [.t 93] none none, none, none, []⟩,
     ⟨some 95, .call (.c (.fn 21 [])) [.t 94] none none, none, none, []⟩,
     ⟨some 14, .mv (.t 95), none, none, []⟩] false [1, 3, 5, 7, 9, 11, 13, 14] []) (
  .seq (
   .reg [⟨some 97, .mv (.t 1), none, none, []⟩,
     ⟨some 98, .mv (.t 9), none, none, []⟩,
     ⟨some 99, .call (.c (.fn 10 [])) [.t 97, .t 98] none none, none, none, []⟩,
     ⟨some 96, .mv (.t 99), none, none, []⟩,
     ⟨some 100, .ext (.t 96) 0, none, none, []⟩,
     ⟨some 101, .ext (.t 96) 1, none, none, []⟩,
     ⟨some 102, .ext (.t 96) 2, none, none, []⟩,
     ⟨some 16, .alloc 17 [.bool false, .nil0] [], none, none, []⟩,
     ⟨some 15, .mv (.t 100), none, none, []⟩,
     ⟨none, .store 2 (.t 16) (.t 101), none, none, []⟩,
     ⟨some 17, .mv (.t 102), none, none, []⟩] false [1, 3, 5, 7, 9, 11, 13, 14, 15, 16, 17] [17]) (
  .seq (
   .reg [⟨some 104, .mv (.t 3), none, none, []⟩,
     ⟨some 105, .mv (.t 9), none, none, []⟩,
     ⟨some 106, .call (.c (.fn 10 [])) [.t 104, .t 105] none none, none, none, []⟩,
     ⟨some 103, .mv (.t 106), none, none, []⟩,
     ⟨some 107, .ext (.t 103) 0, none, none, []⟩,
     ⟨some 108, .ext (.t 103) 1, none, none, []⟩,
     ⟨some 109, .ext (.t 103) 2, none, none, []⟩,
     ⟨some 19, .alloc 20 [.bool false, .nil0] [], none, none, []⟩,
     ⟨some 18, .mv (.t 107), none, none, []⟩,
     ⟨none, .store 2 (.t 19) (.t 108), none, none, []⟩,
     ⟨some 20, .mv (.t 109), none, none, []⟩] false [1, 5, 7, 11, 13, 14, 15, 16, 17, 20] [17]) (
  .seq (
   .reg [⟨some 110, .load 2 true (.t 16), none, none, []⟩,
     ⟨some 111, .call (.c (.fn 21 [])) [.t 110] none none, none, none, []⟩,
     ⟨some 21, .mv (.t 111), none, none, []⟩] false [1, 5, 7, 11, 13, 14, 15, 17, 20, 21] []) (
  .seq (
   .reg [⟨some 112, .mv (.t 1), none, none, []⟩,
     ⟨some 113, .call (.c (.fn 22 [])) [.t 112] none none, none, none, []⟩,
     ⟨some 22, .mv (.t 113), none, none, []⟩] false [1, 5, 7, 11, 13, 14, 15, 17, 20, 21, 22] []) (
  .seq (
   .reg [⟨some 114, .mv (.t 5), none, none, []⟩,
     ⟨some 115, .call (.c (.fn 22 [])) [.t 114] none none, none, none, []⟩,
     ⟨some 23, .mv (.t 115), none, none, []⟩] false [1, 7, 11, 13, 14, 15, 17, 20, 21, 22, 23] []) (
  .seq (
   .reg [⟨some 116, .mv (.t 7), none, none, []⟩,
     ⟨some 117, .call (.c (.fn 22 [])) [.t 116] none none, none, none, []⟩,
     ⟨some 24, .mv (.t 117), none, none, []⟩] false [1, 11, 13, 14, 15, 17, 20, 21, 22, 23, 24] []) (
  .seq (
   .reg [⟨some 118, .mv (.t 1), none, none, []⟩,
     ⟨some 119, .mv (.t 11), none, none, []⟩,
     ⟨some 120, .call (.c (.fn 20 [])) [.t 118, .t 119] none none, none, none, []⟩,
     ⟨some 121, .call (.c (.fn 21 [])) [.t 120] none none, none, none, []⟩,
     ⟨some 25, .mv (.t 121), none, none, []⟩] false [13, 14, 15, 17, 20, 21, 22, 23, 24, 25] []) (
  .seq (
   .reg [⟨some 122, .mv (.t 13), none, none, []⟩,
     ⟨some 123, .bin 2 .eql (.t 122) (.c (.str [53])), none, none, []⟩,
     ⟨some 124, .mv (.t 123), none, none, []⟩,
     ⟨some 125, .mv (.t 14), (some (124, true)), none, []⟩,
     ⟨some 126, .bin 2 .eql (.t 125) (.c (.str [48])), (some (124, true)), none, []⟩,
     ⟨some 127, .pick (.t 124) (.t 126) (.c (.bool false)), none, none, []⟩,
     ⟨some 128, .mv (.t 127), none, none, []⟩,
     ⟨some 129, .mv (.t 15), (some (128, true)), none, []⟩,
     ⟨some 130, .call (.c (.fn 19 [])) [.t 129] none none, (some (128, true)), none, []⟩,
     ⟨some 131, .bin 2 .eql (.t 130) (.c (.str [49, 32, 51, 32])), (some (128, true)), none, []⟩,
     ⟨some 132, .pick (.t 128) (.t 131) (.c (.bool false)), none, none, []⟩,
     ⟨some 133, .mv (.t 132), none, none, []⟩,
     ⟨some 134, .mv (.t 21), (some (133, true)), none, []⟩,
     ⟨some 135, .bin 2 .eql (.t 134) (.c (.str [53])), (some (133, true)), none, []⟩,
     ⟨some 136, .pick (.t 133) (.t 135) (.c (.bool false)), none, none, []⟩,
     ⟨some 137, .mv (.t 136), none, none, []⟩,
     ⟨some 138, .mv (.t 17), (some (137, true)), none, []⟩,
     ⟨some 139, .bin 0 .eql (.t 138) (.c (.int .i64 0)), (some (137, true)), none, []⟩,
     ⟨some 140, .pick (.t 137) (.t 139) (.c (.bool false)), none, none, []⟩,
     ⟨some 141, .mv (.t 140), none, none, []⟩,
     ⟨some 142, .mv (.t 20), (some (141, true)), none, []⟩,
     ⟨some 143, .bin 0 .eql (.t 142) (.c (.int .i64 11)), (some (141, true)), none, []⟩,
     ⟨some 144, .pick (.t 141) (.t 143) (.c (.bool false)), none, none, []⟩,
     ⟨some 145, .mv (.t 144), none, none, []⟩,
     ⟨some 146, .mv (.t 22), (some (145, true)), none, []⟩,
     ⟨some 147, .pick (.t 145) (.t 146) (.c (.bool false)), none, none, []⟩,
     ⟨some 148, .mv (.t 147), none, none, []⟩,
     ⟨some 149, .mv (.t 23), (some (148, true)), none, []⟩,
     ⟨some 150, .un .not (.t 149), (some (148, true)), none, []⟩,
     ⟨some 151, .pick (.t 148) (.t 150) (.c (.bool false)), none, none, []⟩,
     ⟨some 152, .mv (.t 151), none, none, []⟩,
     ⟨some 153, .mv (.t 24), (some (152, true)), none, []⟩,
     ⟨some 154, .un .not (.t 153), (some (152, true)), none, []⟩,
     ⟨some 155, .pick (.t 152) (.t 154) (.c (.bool false)), none, none, []⟩,
     ⟨some 156, .mv (.t 155), none, none, []⟩,
     ⟨some 157, .mv (.t 25), (some (156, true)), none, []⟩,
     ⟨some 158, .bin 2 .eql (.t 157) (.c (.str [51])), (some (156, true)), none, []⟩,
     ⟨some 159, .pick (.t 156) (.t 158) (.c (.bool false)), none, none, []⟩,
     ⟨some 0, .mv (.t 159), none, none, []⟩] false [0] []) (
  .ret))))))))))))
def C_law07_awake : PCode :=
  .seq (
   .reg [⟨some 0, .mv (.c (.bool false)), none, none, []⟩] false [] []) (
  .seq (
   .reg [⟨some 27, .lits 28 1 2 [.c (.int .i64 2), .c (.int .i64 1)], none, none, []⟩,
     ⟨some 28, .lits 29 1 2 [.c (.int .i64 1), .c (.int .i64 3)], none, none, []⟩,
     ⟨some 29, .lits 30 1 2 [.t 27, .t 28], none, none, []⟩,
     ⟨some 30, .call (.c (.fn 34 [])) [.t 29] none none, none, none, []⟩,
     ⟨some 26, .mv (.t 30), none, none, []⟩,
     ⟨some 31, .ext (.t 26) 0, none, none, []⟩,
     ⟨some 32, .ext (.t 26) 1, none, none, []⟩,
     ⟨some 1, .mv (.t 31), none, none, []⟩,
     ⟨some 2, .mv (.t 32), none, none, []⟩] false [1, 2] []) (
  .seq (
   .reg [⟨some 34, .lits 35 1 2 [.c (.int .i64 1), .c (.int .i64 2)], none, none, []⟩,
     ⟨some 35, .lits 36 1 2 [.c (.int .i64 2), .c (.int .i64 4)], none, none, []⟩,
     ⟨some 36, .lits 37 1 2 [.t 34, .t 35], none, none, []⟩,
     ⟨some 37, .call (.c (.fn 34 [])) [.t 36] none none, none, none, []⟩,
     ⟨some 33, .mv (.t 37), none, none, []⟩,
     ⟨some 38, .ext (.t 33) 0, none, none, []⟩,
     ⟨some 39, .ext (.t 33) 1, none, none, []⟩,
     ⟨some 3, .mv (.t 38), none, none, []⟩,
     ⟨some 4, .mv (.t 39), none, none, []⟩] false [1, 2, 3, 4] []) (
  .seq (
   .reg [⟨some 41, .lits 42 1 2 [.c (.int .i64 1), .c (.int .i64 2)], none, none, []⟩,
     ⟨some 42, .lits 43 1 2 [.c (.int .i64 2), .c (.int .i64 1)], none, none, []⟩,
     ⟨some 43, .lits 44 1 2 [.t 41, .t 42], none, none, []⟩,
     ⟨some 44, .call (.c (.fn 34 [])) [.t 43] none none, none, none, []⟩,
     ⟨some 40, .mv (.t 44), none, none, []⟩,
     ⟨some 45, .ext (.t 40) 0, none, none, []⟩,
     ⟨some 46, .ext (.t 40) 1, none, none, []⟩,
     ⟨some 5, .mv (.t 45), none, none, []⟩,
     ⟨some 6, .mv (.t 46), none, none, []⟩] false [1, 2, 3, 4, 5] []) (
  .seq (
   .reg [⟨some 48, .lits 49 1 2 [.c (.int .i64 1), .c (.int .i64 0)], none, none, []⟩,
     ⟨some 49, .lits 50 1 2 [.c (.int .i64 1), .c (.int .i64 1)], none, none, []⟩,
     ⟨some 50, .lits 51 1 2 [.t 48, .t 49], none, none, []⟩,
     ⟨some 51, .call (.c (.fn 34 [])) [.t 50] none none, none, none, []⟩,
     ⟨some 47, .mv (.t 51), none, none, []⟩,
     ⟨some 52, .ext (.t 47) 0, none, none, []⟩,
     ⟨some 53, .ext (.t 47) 1, none, none, []⟩,
     ⟨some 7, .mv (.t 52), none, none, []⟩,
     ⟨some 8, .mv (.t 53), none, none, []⟩] false [1, 2, 3, 4, 5, 7] []) (
  .seq (
   .seq (
    .reg [⟨some 54, .mv (.t 2), none, none, []⟩,
      ⟨some 55, .bin 0 .neq (.t 54) (.c (.int .i64 0)), none, none, []⟩,
      ⟨some 56, .mv (.t 55), none, none, []⟩,
      ⟨some 57, .mv (.t 4), (some (56, false)), none, []⟩,
      ⟨some 58, .bin 0 .neq (.t 57) (.c (.int .i64 0)), (some (56, false)), none, []⟩,
      ⟨some 59, .pick (.t 56) (.c (.bool true)) (.t 58), none, none, []⟩,
      ⟨some 60, .mv (.t 59), none, none, []⟩,
      ⟨some 61, .mv (.t 1), (some (60, false)), none, []⟩,
      ⟨some 62, .len false (.t 61), (some (60, false)), none, []⟩,
      ⟨some 63, .bin 0 .neq (.t 62) (.c (.int .i64 2)), (some (60, false)), none, []⟩,
      ⟨some 64, .pick (.t 60) (.c (.bool true)) (.t 63), none, none, []⟩,
      ⟨some 65, .mv (.t 64), none, none, []⟩,
      ⟨some 66, .mv (.t 3), (some (65, false)), none, []⟩,
      ⟨some 67, .len false (.t 66), (some (65, false)), none, []⟩,
      ⟨some 68, .bin 0 .neq (.t 67) (.c (.int .i64 2)), (some (65, false)), none, []⟩,
      ⟨some 69, .pick (.t 65) (.c (.bool true)) (.t 68), none, none, []⟩,
      ⟨some 70, .mv (.t 69), none, none, []⟩,
      ⟨some 71, .mv (.t 5), (some (70, false)), none, []⟩,
      ⟨some 72, .len false (.t 71), (some (70, false)), none, []⟩,
      ⟨some 73, .bin 0 .neq (.t 72) (.c (.int .i64 2)), (some (70, false)), none, []⟩,
      ⟨some 74, .pick (.t 70) (.c (.bool true)) (.t 73), none, none, []⟩,
      ⟨some 75, .mv (.t 74), none, none, []⟩,
      ⟨some 76, .mv (.t 7), (some (75, false)), none, []⟩,
      ⟨some 77, .len false (.t 76), (some (75, false)), none, []⟩,
      ⟨some 78, .bin 0 .neq (.t 77) (.c (.int .i64 2)), (some (75, false)), none, []⟩,
      ⟨some 79, .pick (.t 75) (.c (.bool true)) (.t 78), none, none, []⟩] false [1, 3, 5, 7, 79] []) (
   .cond (.t 79) (
    .seq (
     .reg [⟨some 0, .mv (.c (.bool false)), none, none, []⟩] false [0] []) (
    .ret)) (
    .skip))) T_law07_awake_0)))))
def D_law07_awake : PFunc := ⟨0, [.tmp 0], false, C_law07_awake⟩
abbrev F_law07_awake : Nat := 7

/-- gimbal/gimballaw07.read -/
def T_law07_read_0 : PCode :=
  .seq (
   .reg [⟨some 16, .mv (.t 0), none, none, []⟩,
     ⟨some 17, .call (.c (.fn 34 [])) [.t 16] none none, none, none, []⟩,
     ⟨some 15, .mv (.t 17), none, none, []⟩,
     ⟨some 18, .ext (.t 15) 0, none, none, []⟩,
     ⟨some 19, .ext (.t 15) 1, none, none, []⟩,
     ⟨some 8, .mv (.t 18), none, none, []⟩,
     ⟨some 9, .mv (.t 19), none, none, []⟩] false [0, 8, 9] []) (
  .seq (
   .reg [⟨some 20, .mv (.t 8), none, none, []⟩,
     ⟨some 21, .mv (.t 0), none, none, []⟩,
     ⟨some 22, .call (.c (.fn 36 [])) [.t 21] none none, none, none, []⟩,
     ⟨some 23, .mv (.t 9), none, none, []⟩,
     ⟨some 24, .bin 0 .eql (.t 23) (.c (.int .i64 0)), none, none, []⟩,
     ⟨some 4, .mv (.t 20), none, none, []⟩,
     ⟨some 5, .mv (.t 22), none, none, []⟩,
     ⟨some 6, .mv (.t 24), none, none, []⟩] false [4, 5, 6] [5, 6]) (
  .ret))
def C_law07_read : PCode :=
  .seq (
   .reg [⟨some 4, .nils 5 1, none, none, []⟩,
     ⟨some 5, .nils 6 1, none, none, []⟩,
     ⟨some 6, .mv (.c (.bool false)), none, none, []⟩] false [0, 1] []) (
  .seq (
   .reg [⟨some 10, .mv (.t 0), none, none, []⟩,
     ⟨some 11, .mv (.t 1), none, none, []⟩,
     ⟨some 12, .call (.c (.fn 35 [])) [.t 10, .t 11] none none, none, none, []⟩,
     ⟨some 7, .mv (.t 12), none, none, []⟩] false [0, 7] []) (
  .seq (
   .seq (
    .reg [⟨some 13, .mv (.t 7), none, none, []⟩,
      ⟨some 14, .un .not (.t 13), none, none, []⟩] false [0, 14] []) (
   .cond (.t 14) (
    .seq (
     .reg [⟨some 4, .nils 5 1, none, none, []⟩,
       ⟨some 5, .nils 6 1, none, none, []⟩,
       ⟨some 6, .mv (.c (.bool false)), none, none, []⟩] false [4, 5, 6] [5, 6]) (
    .ret)) (
    .skip))) T_law07_read_0))
def D_law07_read : PFunc := ⟨2, [.tmp 4, .tmp 5, .tmp 6], false, C_law07_read⟩
abbrev F_law07_read : Nat := 8

/-- gimbal/gimballaw07.list -/
def T_law07_list_0 : PCode :=
  .seq (
   .reg [⟨some 23, .mv (.t 6), none, none, []⟩,
     ⟨some 24, .mv (.t 9), none, none, []⟩,
     ⟨some 25, .call (.c (.fn 32 [])) [.t 24] none none, none, none, []⟩,
     ⟨some 26, .lits 27 2 1 [.t 25], none, none, []⟩,
     ⟨some 27, .app 7 2 32 (.t 23) (.t 26), none, none, []⟩,
     ⟨some 6, .mv (.t 27), none, none, []⟩] false [0, 1, 6, 7, 8, 9] [7, 8]) (
  .reg [⟨some 28, .mv (.t 7), none, none, []⟩,
    ⟨some 29, .mv (.t 9), none, none, []⟩,
    ⟨some 30, .call (.c (.fn 37 [])) [.t 29] none none, none, none, []⟩,
    ⟨some 31, .lits 32 2 1 [.t 30], none, none, []⟩,
    ⟨some 32, .app 8 2 32 (.t 28) (.t 31), none, none, []⟩,
    ⟨some 7, .mv (.t 32), none, none, []⟩] false [0, 1, 6, 7, 8] [7, 8])
def T_law07_list_1 : PCode :=
  .reg [⟨some 13, .mv (.t 8), none, none, []⟩,
    ⟨some 14, .bin 0 .add (.t 13) (.c (.int .i64 1)), none, none, []⟩,
    ⟨some 8, .mv (.t 14), none, none, []⟩] false [0, 1, 6, 7, 8] [7, 8]
def T_law07_list_2 : PCode :=
  .seq (
   .block 1 (
    .seq (
     .reg [⟨some 9, .mv (.c (.int .i64 0)), none, none, []⟩] false [0, 1, 6, 7, 8, 9] [7, 8]) (
    .seq (
     .seq (
      .reg [⟨some 15, .mv (.t 8), none, none, []⟩,
        ⟨some 16, .mv (.t 0), none, none, []⟩,
        ⟨some 17, .len false (.t 16), none, none, []⟩,
        ⟨some 18, .bin 0 .lss (.t 15) (.t 17), none, none, []⟩] false [0, 1, 6, 7, 8, 9, 18] [7, 8]) (
     .cond (.t 18) (
      .reg [⟨some 19, .mv (.t 0), none, none, []⟩,
        ⟨some 20, .mv (.t 8), none, none, []⟩,
        ⟨some 21, .idx 1 (.t 19) (.t 20), none, none, []⟩,
        ⟨some 22, .load 1 false (.t 21), none, none, []⟩,
        ⟨some 9, .mv (.t 22), none, none, []⟩] false [0, 1, 6, 7, 8, 9] [7, 8]) (
      .skip))) T_law07_list_0))) T_law07_list_1
def B_law07_list_3 : PCode :=
  .seq (
   .seq (
    .reg [⟨some 10, .mv (.t 8), none, none, []⟩,
      ⟨some 11, .mv (.t 1), none, none, []⟩,
      ⟨some 12, .bin 0 .lss (.t 10) (.t 11), none, none, []⟩] false [0, 1, 6, 7, 8, 12] [7, 8]) (
   .cond (.t 12) (
    .skip) (
    .exit 0))) T_law07_list_2
def T_law07_list_4 : PCode :=
  .seq (
   .reg [⟨some 33, .mv (.t 6), none, none, []⟩,
     ⟨some 34, .mv (.t 7), none, none, []⟩,
     ⟨some 4, .mv (.t 33), none, none, []⟩,
     ⟨some 5, .mv (.t 34), none, none, []⟩] false [4, 5] [5, 6, 7, 8]) (
  .ret)
def C_law07_list : PCode :=
  .seq (
   .reg [⟨some 4, .nils 5 2, none, none, []⟩,
     ⟨some 5, .nils 6 2, none, none, []⟩] false [0, 1] []) (
  .seq (
   .reg [⟨some 6, .nils 7 2, none, none, []⟩] false [0, 1, 6] [7]) (
  .seq (
   .reg [⟨some 7, .nils 8 2, none, none, []⟩] false [0, 1, 6, 7] [7, 8]) (
  .seq (
   .seq (
    .reg [⟨some 8, .mv (.c (.int .i64 0)), none, none, []⟩] false [0, 1, 6, 7, 8] [7, 8]) (
   .block 0 (
    .loop B_law07_list_3))) T_law07_list_4)))
def D_law07_list : PFunc := ⟨2, [.tmp 4, .tmp 5], false, C_law07_list⟩
abbrev F_law07_list : Nat := 9

/-- (gimbal/lin.Mat).Solve -/
def T_lin_Mat_Solve_0 : PCode :=
  .seq (
   .reg [⟨some 26, .load 1 false (.t 2), none, none, []⟩,
     ⟨some 27, .len false (.t 26), none, none, []⟩,
     ⟨some 28, .clos 40 [.t 7, .t 2, .t 8], none, none, []⟩,
     ⟨some 29, .call (.c (.fn 39 [])) [.t 27, .t 28] none none, none, none, []⟩,
     ⟨some 30, .load 1 false (.t 2), none, none, []⟩,
     ⟨some 31, .call (.c (.fn 11 [])) [.t 30] none none, none, none, []⟩,
     ⟨some 4, .mv (.t 29), none, none, []⟩,
     ⟨none, .store 2 (.t 5) (.t 31), none, none, []⟩,
     ⟨some 6, .mv (.c (.int .i64 0)), none, none, []⟩] true [4, 5, 6] [5, 6]) (
  .ret)
def T_lin_Mat_Solve_1 : PCode :=
  .seq (
   .reg [⟨some 17, .load 1 false (.t 2), none, none, []⟩,
     ⟨some 18, .mv (.t 1), none, none, []⟩,
     ⟨some 19, .call (.c (.fn 38 [])) [.t 17, .t 18] none none, none, none, []⟩,
     ⟨some 16, .mv (.t 19), none, none, []⟩,
     ⟨some 20, .ext (.t 16) 0, none, none, []⟩,
     ⟨some 21, .ext (.t 16) 1, none, none, []⟩,
     ⟨some 22, .ext (.t 16) 2, none, none, []⟩,
     ⟨some 7, .alloc 8 [.nil0] [], none, none, []⟩,
     ⟨some 8, .alloc 9 [.bool false] [], none, none, []⟩,
     ⟨none, .store 1 (.t 7) (.t 20), none, none, []⟩,
     ⟨none, .store 1 (.t 8) (.t 21), none, none, []⟩,
     ⟨some 9, .mv (.t 22), none, none, []⟩] false [2, 5, 7, 8, 9] [3, 6, 8, 9]) (
  .seq (
   .seq (
    .reg [⟨some 23, .mv (.t 9), none, none, []⟩,
      ⟨some 24, .un .not (.t 23), none, none, []⟩] false [2, 5, 7, 8, 24] [3, 6, 8, 9]) (
   .cond (.t 24) (
    .seq (
     .reg [⟨some 25, .build [.bool false, .nil0] [], none, none, []⟩,
       ⟨some 4, .nils 5 2, none, none, []⟩,
       ⟨none, .store 2 (.t 5) (.t 25), none, none, []⟩,
       ⟨some 6, .mv (.c (.int .i64 11)), none, none, []⟩] false [4, 5, 6] [5, 6]) (
    .ret)) (
    .skip))) T_lin_Mat_Solve_0)
def C_lin_Mat_Solve : PCode :=
  .seq (
   .reg [⟨some 2, .box 3 (.t 0), none, none, []⟩,
     ⟨some 4, .nils 5 2, none, none, []⟩,
     ⟨some 5, .alloc 6 [.bool false, .nil0] [], none, none, []⟩,
     ⟨some 6, .mv (.c (.int .i64 0)), none, none, []⟩] false [1, 2, 5] [3, 6]) (
  .seq (
   .seq (
    .reg [⟨some 10, .mv (.t 1), none, none, []⟩,
      ⟨some 11, .len false (.t 10), none, none, []⟩,
      ⟨some 12, .load 1 false (.t 2), none, none, []⟩,
      ⟨some 13, .len false (.t 12), none, none, []⟩,
      ⟨some 14, .bin 0 .neq (.t 11) (.t 13), none, none, []⟩] false [1, 2, 5, 14] [3, 6]) (
   .cond (.t 14) (
    .seq (
     .reg [⟨some 15, .build [.bool false, .nil0] [], none, none, []⟩,
       ⟨some 4, .nils 5 2, none, none, []⟩,
       ⟨none, .store 2 (.t 5) (.t 15), none, none, []⟩,
       ⟨some 6, .mv (.c (.int .i64 1)), none, none, []⟩] false [4, 5, 6] [5, 6]) (
    .ret)) (
    .skip))) T_lin_Mat_Solve_1)
def D_lin_Mat_Solve : PFunc := ⟨2, [.tmp 4, .cell 5 2 true, .tmp 6], false, C_lin_Mat_Solve⟩
abbrev F_lin_Mat_Solve : Nat := 10

/-- (gimbal/lin.Mat).Det -/
def T_lin_Mat_Det_0 : PCode :=
  .seq (
   .reg [⟨some 24, .mv (.t 3), none, none, []⟩,
     ⟨some 25, .mv (.t 0), none, none, []⟩,
     ⟨some 26, .len false (.t 25), none, none, []⟩,
     ⟨some 27, .bin 0 .sub (.t 26) (.c (.int .i64 1)), none, none, []⟩,
     ⟨some 28, .idx 1 (.t 24) (.t 27), none, none, []⟩,
     ⟨some 29, .load 1 false (.t 28), none, none, []⟩,
     ⟨some 30, .mv (.t 0), none, none, []⟩,
     ⟨some 31, .len false (.t 30), none, none, []⟩,
     ⟨some 32, .bin 0 .sub (.t 31) (.c (.int .i64 1)), none, none, []⟩,
     ⟨some 33, .idx 2 (.t 29) (.t 32), none, none, []⟩,
     ⟨some 34, .load 2 true (.t 33), none, none, []⟩,
     ⟨some 35, .mv (.t 4), none, none, []⟩,
     ⟨some 36, .call (.c (.fn 41 [])) [.t 34, .t 35] none none, none, none, []⟩,
     ⟨none, .store 2 (.t 2) (.t 36), none, none, []⟩] false [2] [3]) (
  .ret)
def C_lin_Mat_Det : PCode :=
  .seq (
   .reg [⟨some 2, .alloc 3 [.bool false, .nil0] [], none, none, []⟩] false [0, 2] [3]) (
  .seq (
   .reg [⟨some 7, .mv (.t 0), none, none, []⟩,
     ⟨some 8, .mv (.t 0), none, none, []⟩,
     ⟨some 9, .len false (.t 8), none, none, []⟩,
     ⟨some 10, .call (.c (.fn 42 [])) [.t 9] none none, none, none, []⟩,
     ⟨some 11, .call (.c (.fn 38 [])) [.t 7, .t 10] none none, none, none, []⟩,
     ⟨some 6, .mv (.t 11), none, none, []⟩,
     ⟨some 12, .ext (.t 6) 0, none, none, []⟩,
     ⟨some 13, .ext (.t 6) 1, none, none, []⟩,
     ⟨some 14, .ext (.t 6) 2, none, none, []⟩,
     ⟨some 3, .mv (.t 12), none, none, []⟩,
     ⟨some 4, .mv (.t 13), none, none, []⟩,
     ⟨some 5, .mv (.t 14), none, none, []⟩] false [0, 2, 3, 4, 5] [3]) (
  .seq (
   .block 0 (
    .seq (
     .reg [⟨some 16, .mv (.t 5), none, none, []⟩,
       ⟨some 17, .un .not (.t 16), none, none, []⟩,
       ⟨some 15, .mv (.t 17), none, none, []⟩] false [0, 2, 3, 4, 15] [3]) (
    .cond (.t 15) (
     .seq (
      .reg [⟨some 18, .build [.bool false, .nil0] [], none, none, []⟩,
        ⟨none, .store 2 (.t 2) (.t 18), none, none, []⟩] false [2] [3]) (
     .ret)) (
     .seq (
      .reg [⟨some 20, .mv (.t 0), none, none, []⟩,
        ⟨some 21, .len false (.t 20), none, none, []⟩,
        ⟨some 22, .bin 0 .eql (.t 21) (.c (.int .i64 0)), none, none, []⟩,
        ⟨some 19, .mv (.t 22), none, none, []⟩] false [0, 2, 3, 4, 19] [3]) (
     .cond (.t 19) (
      .seq (
       .reg [⟨some 23, .call (.c (.fn 32 [])) [.c (.int .i64 1)] none none, none, none, []⟩,
         ⟨none, .store 2 (.t 2) (.t 23), none, none, []⟩] false [2] [3]) (
      .ret)) (
      .skip)))))) T_lin_Mat_Det_0))
def D_lin_Mat_Det : PFunc := ⟨1, [.cell 2 2 true], false, C_lin_Mat_Det⟩
abbrev F_lin_Mat_Det : Nat := 11

/-- (gimbal/long.Int).Sign -/
def T_long_Int_Sign_0 : PCode :=
  .seq (
   .reg [⟨some 2, .mv (.c (.int .i64 1)), none, none, []⟩] false [2] []) (
  .ret)
def C_long_Int_Sign : PCode :=
  .seq (
   .reg [⟨some 1, .box 2 (.t 0), none, none, []⟩,
     ⟨some 2, .mv (.c (.int .i64 0)), none, none, []⟩] false [1] [2]) (
  .seq (
   .block 0 (
    .seq (
     .reg [⟨some 4, .field 1 1 (.t 1), none, none, []⟩,
       ⟨some 5, .load 1 false (.t 4), none, none, []⟩,
       ⟨some 6, .len false (.t 5), none, none, []⟩,
       ⟨some 7, .bin 0 .eql (.t 6) (.c (.int .i64 0)), none, none, []⟩,
       ⟨some 3, .mv (.t 7), none, none, []⟩] false [1, 3] [2]) (
    .cond (.t 3) (
     .seq (
      .reg [⟨some 2, .mv (.c (.int .i64 0)), none, none, []⟩] false [2] []) (
     .ret)) (
     .seq (
      .reg [⟨some 9, .field 0 1 (.t 1), none, none, []⟩,
        ⟨some 10, .load 1 false (.t 9), none, none, []⟩,
        ⟨some 8, .mv (.t 10), none, none, []⟩] false [8] []) (
     .cond (.t 8) (
      .seq (
       .reg [⟨some 2, .mv (.c (.int .i64 (-1))), none, none, []⟩] false [2] []) (
      .ret)) (
      .skip)))))) T_long_Int_Sign_0)
def D_long_Int_Sign : PFunc := ⟨1, [.tmp 2], false, C_long_Int_Sign⟩
abbrev F_long_Int_Sign : Nat := 12

/-- (gimbal/lin.Mat).Apply -/
def C_lin_Mat_Apply : PCode :=
  .seq (
   .reg [⟨some 2, .box 3 (.t 0), none, none, []⟩,
     ⟨some 3, .box 4 (.t 1), none, none, []⟩,
     ⟨some 4, .nils 5 2, none, none, []⟩] false [2, 3] [3, 4]) (
  .seq (
   .reg [⟨some 5, .load 1 false (.t 2), none, none, []⟩,
     ⟨some 6, .len false (.t 5), none, none, []⟩,
     ⟨some 7, .clos 43 [.t 2, .t 3], none, none, []⟩,
     ⟨some 8, .call (.c (.fn 39 [])) [.t 6, .t 7] none none, none, none, []⟩,
     ⟨some 4, .mv (.t 8), none, none, []⟩] false [4] [5]) (
  .ret))
def D_lin_Mat_Apply : PFunc := ⟨2, [.tmp 4], false, C_lin_Mat_Apply⟩
abbrev F_lin_Mat_Apply : Nat := 13

/-- (gimbal/long.Int).Cmp -/
def C_long_Int_Cmp : PCode :=
  .seq (
   .reg [⟨some 2, .box 3 (.t 0), none, none, []⟩,
     ⟨some 3, .box 4 (.t 1), none, none, []⟩,
     ⟨some 4, .mv (.c (.int .i64 0)), none, none, []⟩] false [2, 3] [3, 4]) (
  .seq (
   .reg [⟨some 5, .load 2 true (.t 2), none, none, []⟩,
     ⟨some 6, .load 2 true (.t 3), none, none, []⟩,
     ⟨some 7, .call (.c (.fn 46 [])) [.t 5, .t 6] none none, none, none, []⟩,
     ⟨some 8, .call (.c (.fn 12 [])) [.t 7] none none, none, none, []⟩,
     ⟨some 4, .mv (.t 8), none, none, []⟩] false [4] []) (
  .ret))
def D_long_Int_Cmp : PFunc := ⟨2, [.tmp 4], false, C_long_Int_Cmp⟩
abbrev F_long_Int_Cmp : Nat := 14

/-- (gimbal/long.Int).Mul -/
def T_long_Int_Mul_0 : PCode :=
  .seq (
   .block 3 (
    .seq (
     .reg [⟨some 33, .mv (.t 31), none, none, []⟩,
       ⟨some 34, .idx 1 (.t 29) (.t 31), none, none, []⟩,
       ⟨some 35, .load 1 false (.t 34), none, none, []⟩,
       ⟨some 9, .mv (.t 33), none, none, []⟩,
       ⟨some 10, .mv (.t 35), none, none, []⟩] false [2, 3, 4, 5, 6, 7, 8, 9, 10, 21, 22, 23, 29, 30, 31] [3, 4, 5, 20]) (
    .seq (
     .reg [⟨some 36, .mv (.t 8), none, none, []⟩,
       ⟨some 37, .mv (.t 7), none, none, []⟩,
       ⟨some 38, .conv .u64 (.t 37), none, none, []⟩,
       ⟨some 39, .mv (.t 10), none, none, []⟩,
       ⟨some 40, .conv .u64 (.t 39), none, none, []⟩,
       ⟨some 41, .bin 0 .mul (.t 38) (.t 40), none, none, []⟩,
       ⟨some 42, .mv (.t 5), none, none, []⟩,
       ⟨some 43, .mv (.t 6), none, none, []⟩,
       ⟨some 44, .mv (.t 9), none, none, []⟩,
       ⟨some 45, .bin 0 .add (.t 43) (.t 44), none, none, []⟩,
       ⟨some 46, .idx 1 (.t 42) (.t 45), none, none, []⟩,
       ⟨some 47, .load 1 false (.t 46), none, none, []⟩,
       ⟨some 48, .conv .u64 (.t 47), none, none, []⟩,
       ⟨some 49, .bin 0 .add (.t 41) (.t 48), none, none, []⟩,
       ⟨some 50, .bin 0 .add (.t 36) (.t 49), none, none, []⟩,
       ⟨some 8, .mv (.t 50), none, none, []⟩] false [2, 3, 4, 5, 6, 7, 8, 9, 21, 22, 23, 29, 30, 31] [3, 4, 5, 20]) (
    .seq (
     .reg [⟨some 51, .mv (.t 5), none, none, []⟩,
       ⟨some 52, .mv (.t 6), none, none, []⟩,
       ⟨some 53, .mv (.t 9), none, none, []⟩,
       ⟨some 54, .bin 0 .add (.t 52) (.t 53), none, none, []⟩,
       ⟨some 55, .mv (.t 8), none, none, []⟩,
       ⟨some 56, .conv .u32 (.t 55), none, none, []⟩,
       ⟨some 57, .idx 1 (.t 51) (.t 54), none, none, []⟩,
       ⟨none, .store 1 (.t 57) (.t 56), none, none, []⟩] false [2, 3, 4, 5, 6, 7, 8, 21, 22, 23, 29, 30, 31] [3, 4, 5, 20]) (
    .reg [⟨some 58, .mv (.t 8), none, none, []⟩,
      ⟨some 59, .bin 0 .shr (.t 58) (.c (.int .u64 32)), none, none, []⟩,
      ⟨some 8, .mv (.t 59), none, none, []⟩] false [2, 3, 4, 5, 6, 7, 8, 21, 22, 23, 29, 30, 31] [3, 4, 5, 20]))))) (
  .reg [⟨some 60, .bin 0 .add (.t 31) (.c (.int .i64 1)), none, none, []⟩,
    ⟨some 31, .mv (.t 60), none, none, []⟩] false [2, 3, 4, 5, 6, 7, 8, 21, 22, 23, 29, 30, 31] [3, 4, 5, 20])
def B_long_Int_Mul_1 : PCode :=
  .seq (
   .reg [⟨some 32, .bin 0 .lss (.t 31) (.t 30), none, none, []⟩] false [2, 3, 4, 5, 6, 7, 8, 21, 22, 23, 29, 30, 31, 32] [3, 4, 5, 20]) (
  .seq (
   .cond (.t 32) (
    .skip) (
    .exit 2)) T_long_Int_Mul_0)
def T_long_Int_Mul_2 : PCode :=
  .reg [⟨some 61, .mv (.t 5), none, none, []⟩,
    ⟨some 62, .mv (.t 6), none, none, []⟩,
    ⟨some 63, .field 1 1 (.t 3), none, none, []⟩,
    ⟨some 64, .load 1 false (.t 63), none, none, []⟩,
    ⟨some 65, .len false (.t 64), none, none, []⟩,
    ⟨some 66, .bin 0 .add (.t 62) (.t 65), none, none, []⟩,
    ⟨some 67, .mv (.t 8), none, none, []⟩,
    ⟨some 68, .conv .u32 (.t 67), none, none, []⟩,
    ⟨some 69, .idx 1 (.t 61) (.t 66), none, none, []⟩,
    ⟨none, .store 1 (.t 69) (.t 68), none, none, []⟩] false [2, 3, 4, 5, 21, 22, 23] [3, 4, 5, 20]
def T_long_Int_Mul_3 : PCode :=
  .reg [⟨some 70, .bin 0 .add (.t 23) (.c (.int .i64 1)), none, none, []⟩,
    ⟨some 23, .mv (.t 70), none, none, []⟩] false [2, 3, 4, 5, 21, 22, 23] [3, 4, 5, 20]
def T_long_Int_Mul_4 : PCode :=
  .seq (
   .block 1 (
    .seq (
     .reg [⟨some 25, .mv (.t 23), none, none, []⟩,
       ⟨some 26, .idx 1 (.t 21) (.t 23), none, none, []⟩,
       ⟨some 27, .load 1 false (.t 26), none, none, []⟩,
       ⟨some 6, .mv (.t 25), none, none, []⟩,
       ⟨some 7, .mv (.t 27), none, none, []⟩] false [2, 3, 4, 5, 6, 7, 21, 22, 23] [3, 4, 5, 20]) (
    .seq (
     .reg [⟨some 8, .mv (.c (.int .u64 0)), none, none, []⟩] false [2, 3, 4, 5, 6, 7, 8, 21, 22, 23] [3, 4, 5, 20]) (
    .seq (
     .seq (
      .reg [⟨some 28, .field 1 1 (.t 3), none, none, []⟩,
        ⟨some 29, .load 1 false (.t 28), none, none, []⟩,
        ⟨some 30, .len false (.t 29), none, none, []⟩,
        ⟨some 31, .mv (.c (.int .i64 0)), none, none, []⟩] false [2, 3, 4, 5, 6, 7, 8, 21, 22, 23, 29, 30, 31] [3, 4, 5, 20]) (
     .block 2 (
      .loop B_long_Int_Mul_1))) T_long_Int_Mul_2)))) T_long_Int_Mul_3
def B_long_Int_Mul_5 : PCode :=
  .seq (
   .reg [⟨some 24, .bin 0 .lss (.t 23) (.t 22), none, none, []⟩] false [2, 3, 4, 5, 21, 22, 23, 24] [3, 4, 5, 20]) (
  .seq (
   .cond (.t 24) (
    .skip) (
    .exit 0)) T_long_Int_Mul_4)
def T_long_Int_Mul_6 : PCode :=
  .seq (
   .reg [⟨some 71, .field 0 1 (.t 2), none, none, []⟩,
     ⟨some 72, .load 1 false (.t 71), none, none, []⟩,
     ⟨some 73, .field 0 1 (.t 3), none, none, []⟩,
     ⟨some 74, .load 1 false (.t 73), none, none, []⟩,
     ⟨some 75, .bin 1 .neq (.t 72) (.t 74), none, none, []⟩,
     ⟨some 76, .mv (.t 5), none, none, []⟩,
     ⟨some 77, .call (.c (.fn 47 [])) [.t 75, .t 76] none none, none, none, []⟩,
     ⟨none, .store 2 (.t 4) (.t 77), none, none, []⟩] false [4] [5]) (
  .ret)
def C_long_Int_Mul : PCode :=
  .seq (
   .reg [⟨some 2, .box 3 (.t 0), none, none, []⟩,
     ⟨some 3, .box 4 (.t 1), none, none, []⟩,
     ⟨some 4, .alloc 5 [.bool false, .nil0] [], none, none, []⟩] false [2, 3, 4] [3, 4, 5]) (
  .seq (
   .reg [⟨some 11, .field 1 1 (.t 2), none, none, []⟩,
     ⟨some 12, .load 1 false (.t 11), none, none, []⟩,
     ⟨some 13, .len false (.t 12), none, none, []⟩,
     ⟨some 14, .field 1 1 (.t 3), none, none, []⟩,
     ⟨some 15, .load 1 false (.t 14), none, none, []⟩,
     ⟨some 16, .len false (.t 15), none, none, []⟩,
     ⟨some 17, .bin 0 .add (.t 13) (.t 16), none, none, []⟩,
     ⟨some 18, .bin 0 .add (.t 17) (.c (.int .i64 1)), none, none, []⟩,
     ⟨some 19, .make 20 [.int .u32 0] 4 (.t 18) (.t 18), none, none, []⟩,
     ⟨some 5, .mv (.t 19), none, none, []⟩] false [2, 3, 4, 5] [3, 4, 5, 20]) (
  .seq (
   .seq (
    .reg [⟨some 20, .field 1 1 (.t 2), none, none, []⟩,
      ⟨some 21, .load 1 false (.t 20), none, none, []⟩,
      ⟨some 22, .len false (.t 21), none, none, []⟩,
      ⟨some 23, .mv (.c (.int .i64 0)), none, none, []⟩] false [2, 3, 4, 5, 21, 22, 23] [3, 4, 5, 20]) (
   .block 0 (
    .loop B_long_Int_Mul_5))) T_long_Int_Mul_6))
def D_long_Int_Mul : PFunc := ⟨2, [.cell 4 2 true], false, C_long_Int_Mul⟩
abbrev F_long_Int_Mul : Nat := 15

/-- gimbal/gimballaw07.whole -/
def T_law07_whole_0 : PCode :=
  .seq (
   .block 1 (
    .reg [⟨some 11, .mv (.t 3), none, none, []⟩,
      ⟨some 12, .mv (.t 0), none, none, []⟩,
      ⟨some 13, .mv (.t 4), none, none, []⟩,
      ⟨some 14, .idx 1 (.t 12) (.t 13), none, none, []⟩,
      ⟨some 15, .load 1 false (.t 14), none, none, []⟩,
      ⟨some 16, .call (.c (.fn 19 [])) [.t 15] none none, none, none, []⟩,
      ⟨some 17, .bin 2 .add (.t 11) (.t 16), none, none, []⟩,
      ⟨some 18, .bin 2 .add (.t 17) (.c (.str [59])), none, none, []⟩,
      ⟨some 3, .mv (.t 18), none, none, []⟩] false [0, 3, 4] [])) (
  .reg [⟨some 9, .mv (.t 4), none, none, []⟩,
    ⟨some 10, .bin 0 .add (.t 9) (.c (.int .i64 1)), none, none, []⟩,
    ⟨some 4, .mv (.t 10), none, none, []⟩] false [0, 3, 4] [])
def B_law07_whole_1 : PCode :=
  .seq (
   .seq (
    .reg [⟨some 5, .mv (.t 4), none, none, []⟩,
      ⟨some 6, .mv (.t 0), none, none, []⟩,
      ⟨some 7, .len false (.t 6), none, none, []⟩,
      ⟨some 8, .bin 0 .lss (.t 5) (.t 7), none, none, []⟩] false [0, 3, 4, 8] []) (
   .cond (.t 8) (
    .skip) (
    .exit 0))) T_law07_whole_0
def T_law07_whole_2 : PCode :=
  .seq (
   .reg [⟨some 19, .mv (.t 3), none, none, []⟩,
     ⟨some 2, .mv (.t 19), none, none, []⟩] false [2] []) (
  .ret)
def C_law07_whole : PCode :=
  .seq (
   .reg [⟨some 2, .mv (.c (.str [])), none, none, []⟩] false [0] []) (
  .seq (
   .reg [⟨some 3, .mv (.c (.str [])), none, none, []⟩] false [0, 3] []) (
  .seq (
   .seq (
    .reg [⟨some 4, .mv (.c (.int .i64 0)), none, none, []⟩] false [0, 3, 4] []) (
   .block 0 (
    .loop B_law07_whole_1))) T_law07_whole_2))
def D_law07_whole : PFunc := ⟨1, [.tmp 2], false, C_law07_whole⟩
abbrev F_law07_whole : Nat := 16

/-- (gimbal/lin.Mat).Mul -/
def C_lin_Mat_Mul : PCode :=
  .seq (
   .reg [⟨some 2, .box 3 (.t 0), none, none, []⟩,
     ⟨some 3, .box 4 (.t 1), none, none, []⟩,
     ⟨some 4, .nils 5 1, none, none, []⟩] false [2, 3] [3, 4]) (
  .seq (
   .reg [⟨some 5, .load 1 false (.t 2), none, none, []⟩,
     ⟨some 6, .len false (.t 5), none, none, []⟩,
     ⟨some 7, .clos 49 [.t 2, .t 3], none, none, []⟩,
     ⟨some 8, .call (.c (.fn 48 [])) [.t 6, .t 7] none none, none, none, []⟩,
     ⟨some 4, .mv (.t 8), none, none, []⟩] false [4] [5]) (
  .ret))
def D_lin_Mat_Mul : PFunc := ⟨2, [.tmp 4], false, C_lin_Mat_Mul⟩
abbrev F_lin_Mat_Mul : Nat := 17

/-- (gimbal/lin.Mat).Turned -/
def C_lin_Mat_Turned : PCode :=
  .seq (
   .reg [⟨some 1, .box 2 (.t 0), none, none, []⟩,
     ⟨some 2, .nils 3 1, none, none, []⟩] false [1] [2]) (
  .seq (
   .reg [⟨some 3, .load 1 false (.t 1), none, none, []⟩,
     ⟨some 4, .len false (.t 3), none, none, []⟩,
     ⟨some 5, .clos 51 [.t 1], none, none, []⟩,
     ⟨some 6, .call (.c (.fn 48 [])) [.t 4, .t 5] none none, none, none, []⟩,
     ⟨some 2, .mv (.t 6), none, none, []⟩] false [2] [3]) (
  .ret))
def D_lin_Mat_Turned : PFunc := ⟨1, [.tmp 2], false, C_lin_Mat_Turned⟩
abbrev F_lin_Mat_Turned : Nat := 18

/-- gimbal/gimballaw07.text -/
def T_law07_text_0 : PCode :=
  .seq (
   .block 1 (
    .reg [⟨some 11, .mv (.t 3), none, none, []⟩,
      ⟨some 12, .mv (.t 0), none, none, []⟩,
      ⟨some 13, .mv (.t 4), none, none, []⟩,
      ⟨some 14, .idx 2 (.t 12) (.t 13), none, none, []⟩,
      ⟨some 15, .load 2 true (.t 14), none, none, []⟩,
      ⟨some 16, .call (.c (.fn 21 [])) [.t 15] none none, none, none, []⟩,
      ⟨some 17, .bin 2 .add (.t 11) (.t 16), none, none, []⟩,
      ⟨some 18, .bin 2 .add (.t 17) (.c (.str [32])), none, none, []⟩,
      ⟨some 3, .mv (.t 18), none, none, []⟩] false [0, 3, 4] [])) (
  .reg [⟨some 9, .mv (.t 4), none, none, []⟩,
    ⟨some 10, .bin 0 .add (.t 9) (.c (.int .i64 1)), none, none, []⟩,
    ⟨some 4, .mv (.t 10), none, none, []⟩] false [0, 3, 4] [])
def B_law07_text_1 : PCode :=
  .seq (
   .seq (
    .reg [⟨some 5, .mv (.t 4), none, none, []⟩,
      ⟨some 6, .mv (.t 0), none, none, []⟩,
      ⟨some 7, .len false (.t 6), none, none, []⟩,
      ⟨some 8, .bin 0 .lss (.t 5) (.t 7), none, none, []⟩] false [0, 3, 4, 8] []) (
   .cond (.t 8) (
    .skip) (
    .exit 0))) T_law07_text_0
def T_law07_text_2 : PCode :=
  .seq (
   .reg [⟨some 19, .mv (.t 3), none, none, []⟩,
     ⟨some 2, .mv (.t 19), none, none, []⟩] false [2] []) (
  .ret)
def C_law07_text : PCode :=
  .seq (
   .reg [⟨some 2, .mv (.c (.str [])), none, none, []⟩] false [0] []) (
  .seq (
   .reg [⟨some 3, .mv (.c (.str [])), none, none, []⟩] false [0, 3] []) (
  .seq (
   .seq (
    .reg [⟨some 4, .mv (.c (.int .i64 0)), none, none, []⟩] false [0, 3, 4] []) (
   .block 0 (
    .loop B_law07_text_1))) T_law07_text_2))
def D_law07_text : PFunc := ⟨1, [.tmp 2], false, C_law07_text⟩
abbrev F_law07_text : Nat := 19

/-- (gimbal/lin.Mat).Quad -/
def C_lin_Mat_Quad : PCode :=
  .seq (
   .reg [⟨some 3, .box 4 (.t 1), none, none, []⟩,
     ⟨some 4, .alloc 5 [.bool false, .nil0] [], none, none, []⟩] false [0, 3, 4] [4, 5]) (
  .seq (
   .reg [⟨some 6, .mv (.t 0), none, none, []⟩,
     ⟨some 7, .load 1 false (.t 3), none, none, []⟩,
     ⟨some 8, .call (.c (.fn 13 [])) [.t 6, .t 7] none none, none, none, []⟩,
     ⟨some 5, .alloc 6 [.nil0] [], none, none, []⟩,
     ⟨none, .store 1 (.t 5) (.t 8), none, none, []⟩] false [0, 3, 4, 5] [4, 5, 6]) (
  .seq (
   .reg [⟨some 9, .mv (.t 0), none, none, []⟩,
     ⟨some 10, .len false (.t 9), none, none, []⟩,
     ⟨some 11, .clos 52 [.t 3, .t 5], none, none, []⟩,
     ⟨some 12, .call (.c (.fn 44 [])) [.t 10, .t 11] none none, none, none, []⟩,
     ⟨none, .store 2 (.t 4) (.t 12), none, none, []⟩] false [4] [5]) (
  .ret)))
def D_lin_Mat_Quad : PFunc := ⟨2, [.cell 4 2 true], false, C_lin_Mat_Quad⟩
abbrev F_lin_Mat_Quad : Nat := 20

/-- (gimbal/long.Int).String -/
def T_long_Int_String_0 : PCode :=
  .reg [⟨some 40, .mv (.t 6), none, none, []⟩,
    ⟨some 41, .bin 0 .quo (.t 40) (.c (.int .u32 10)), none, none, []⟩,
    ⟨some 6, .mv (.t 41), none, none, []⟩] false [1, 3, 4, 6, 24] [2, 4]
def T_long_Int_String_1 : PCode :=
  .reg [⟨some 42, .bin 0 .add (.t 24) (.c (.int .i64 1)), none, none, []⟩,
    ⟨some 24, .mv (.t 42), none, none, []⟩] false [1, 3, 4, 6, 24] [2, 4]
def T_long_Int_String_2 : PCode :=
  .seq (
   .block 3 (
    .seq (
     .seq (
      .reg [⟨some 26, .mv (.t 6), none, none, []⟩,
        ⟨some 27, .bin 0 .gtr (.t 26) (.c (.int .u32 0)), none, none, []⟩,
        ⟨some 28, .mv (.t 27), none, none, []⟩,
        ⟨some 29, .mv (.t 4), (some (28, false)), none, []⟩,
        ⟨some 30, .len false (.t 29), (some (28, false)), none, []⟩,
        ⟨some 31, .bin 0 .gtr (.t 30) (.c (.int .i64 0)), (some (28, false)), none, []⟩,
        ⟨some 32, .pick (.t 28) (.c (.bool true)) (.t 31), none, none, []⟩] false [1, 3, 4, 6, 24, 32] [2, 4]) (
     .cond (.t 32) (
      .reg [⟨some 33, .mv (.t 3), none, none, []⟩,
        ⟨some 34, .mv (.t 6), none, none, []⟩,
        ⟨some 35, .bin 0 .rem (.t 34) (.c (.int .u32 10)), none, none, []⟩,
        ⟨some 36, .bin 0 .add (.c (.int .u32 48)) (.t 35), none, none, []⟩,
        ⟨some 37, .conv .u8 (.t 36), none, none, []⟩,
        ⟨some 38, .lits 39 1 1 [.t 37], none, none, []⟩,
        ⟨some 39, .app 4 1 1 (.t 33) (.t 38), none, none, []⟩,
        ⟨some 3, .mv (.t 39), none, none, []⟩] false [1, 3, 4, 6, 24] [2, 4]) (
      .skip))) T_long_Int_String_0)) T_long_Int_String_1
def B_long_Int_String_3 : PCode :=
  .seq (
   .reg [⟨some 25, .bin 0 .lss (.t 24) (.c (.int .i64 9)), none, none, []⟩] false [1, 3, 4, 6, 24, 25] [2, 4]) (
  .seq (
   .cond (.t 25) (
    .skip) (
    .exit 2)) T_long_Int_String_2)
def T_long_Int_String_4 : PCode :=
  .block 1 (
   .seq (
    .reg [⟨some 17, .mv (.t 4), none, none, []⟩,
      ⟨some 18, .call (.c (.fn 53 [])) [.t 17, .c (.int .u32 1000000000)] none none, none, none, []⟩,
      ⟨some 16, .mv (.t 18), none, none, []⟩,
      ⟨some 19, .ext (.t 16) 0, none, none, []⟩,
      ⟨some 20, .ext (.t 16) 1, none, none, []⟩,
      ⟨some 5, .mv (.t 19), none, none, []⟩,
      ⟨some 6, .mv (.t 20), none, none, []⟩] false [1, 3, 5, 6] [2, 4]) (
   .seq (
    .reg [⟨some 21, .mv (.t 5), none, none, []⟩,
      ⟨some 22, .call (.c (.fn 47 [])) [.c (.bool false), .t 21] none none, none, none, []⟩,
      ⟨some 23, .getf 1 1 false (.t 22), none, none, []⟩,
      ⟨some 4, .mv (.t 23), none, none, []⟩] false [1, 3, 4, 6] [2, 4]) (
   .seq (
    .reg [⟨some 24, .mv (.c (.int .i64 0)), none, none, []⟩] false [1, 3, 4, 6, 24] [2, 4]) (
   .block 2 (
    .loop B_long_Int_String_3)))))
def B_long_Int_String_5 : PCode :=
  .seq (
   .seq (
    .reg [⟨some 13, .mv (.t 4), none, none, []⟩,
      ⟨some 14, .len false (.t 13), none, none, []⟩,
      ⟨some 15, .bin 0 .gtr (.t 14) (.c (.int .i64 0)), none, none, []⟩] false [1, 3, 4, 15] [2, 4]) (
   .cond (.t 15) (
    .skip) (
    .exit 0))) T_long_Int_String_4
def T_long_Int_String_6 : PCode :=
  .seq (
   .reg [⟨some 48, .mv (.t 3), none, none, []⟩,
     ⟨some 49, .call (.c (.fn 54 [])) [.t 48] (some 0) none, none, none, []⟩] false [3] [4]) (
  .seq (
   .reg [⟨some 50, .mv (.t 3), none, none, []⟩,
     ⟨some 51, .tostr (.t 50), none, none, []⟩,
     ⟨some 2, .mv (.t 51), none, none, []⟩] false [2] []) (
  .ret))
def T_long_Int_String_7 : PCode :=
  .seq (
   .seq (
    .reg [⟨some 43, .field 0 1 (.t 1), none, none, []⟩,
      ⟨some 44, .load 1 false (.t 43), none, none, []⟩] false [3, 44] [4]) (
   .cond (.t 44) (
    .reg [⟨some 45, .mv (.t 3), none, none, []⟩,
      ⟨some 46, .lits 47 1 1 [.c (.int .u8 45)], none, none, []⟩,
      ⟨some 47, .app 4 1 1 (.t 45) (.t 46), none, none, []⟩,
      ⟨some 3, .mv (.t 47), none, none, []⟩] false [3] [4]) (
    .skip))) T_long_Int_String_6
def T_long_Int_String_8 : PCode :=
  .seq (
   .reg [⟨some 3, .nils 4 1, none, none, []⟩] false [1, 3] [2, 4]) (
  .seq (
   .seq (
    .reg [⟨some 11, .field 1 1 (.t 1), none, none, []⟩,
      ⟨some 12, .load 1 false (.t 11), none, none, []⟩,
      ⟨some 4, .mv (.t 12), none, none, []⟩] false [1, 3, 4] [2, 4]) (
   .block 0 (
    .loop B_long_Int_String_5))) T_long_Int_String_7)
def C_long_Int_String : PCode :=
  .seq (
   .reg [⟨some 1, .box 2 (.t 0), none, none, []⟩,
     ⟨some 2, .mv (.c (.str [])), none, none, []⟩] false [1] [2]) (
  .seq (
   .seq (
    .reg [⟨some 7, .field 1 1 (.t 1), none, none, []⟩,
      ⟨some 8, .load 1 false (.t 7), none, none, []⟩,
      ⟨some 9, .len false (.t 8), none, none, []⟩,
      ⟨some 10, .bin 0 .eql (.t 9) (.c (.int .i64 0)), none, none, []⟩] false [1, 10] [2]) (
   .cond (.t 10) (
    .seq (
     .reg [⟨some 2, .mv (.c (.str [48])), none, none, []⟩] false [2] []) (
    .ret)) (
    .skip))) T_long_Int_String_8)
def D_long_Int_String : PFunc := ⟨1, [.tmp 2], false, C_long_Int_String⟩
abbrev F_long_Int_String : Nat := 21

/-- (gimbal/lin.Mat).Definite -/
def T_lin_Mat_Definite_0 : PCode :=
  .reg [⟨some 31, .bin 0 .add (.t 12) (.c (.int .i64 1)), none, none, []⟩,
    ⟨some 12, .mv (.t 31), none, none, []⟩] false [1, 3, 7, 8, 11, 12] [2]
def T_lin_Mat_Definite_1 : PCode :=
  .seq (
   .block 3 (
    .seq (
     .reg [⟨some 14, .mv (.t 12), none, none, []⟩,
       ⟨some 4, .mv (.t 14), none, none, []⟩] false [1, 3, 4, 7, 8, 11, 12] [2]) (
    .seq (
     .reg [⟨some 15, .load 1 false (.t 1), none, none, []⟩,
       ⟨some 16, .mv (.t 3), none, none, []⟩,
       ⟨some 17, .idx 1 (.t 15) (.t 16), none, none, []⟩,
       ⟨some 18, .load 1 false (.t 17), none, none, []⟩,
       ⟨some 19, .mv (.t 4), none, none, []⟩,
       ⟨some 20, .idx 2 (.t 18) (.t 19), none, none, []⟩,
       ⟨some 21, .load 2 true (.t 20), none, none, []⟩,
       ⟨some 22, .load 1 false (.t 1), none, none, []⟩,
       ⟨some 23, .mv (.t 4), none, none, []⟩,
       ⟨some 24, .idx 1 (.t 22) (.t 23), none, none, []⟩,
       ⟨some 25, .load 1 false (.t 24), none, none, []⟩,
       ⟨some 26, .mv (.t 3), none, none, []⟩,
       ⟨some 27, .idx 2 (.t 25) (.t 26), none, none, []⟩,
       ⟨some 28, .load 2 true (.t 27), none, none, []⟩,
       ⟨some 29, .call (.c (.fn 14 [])) [.t 21, .t 28] none none, none, none, []⟩,
       ⟨some 30, .bin 0 .neq (.t 29) (.c (.int .i64 0)), none, none, []⟩] true [1, 3, 7, 8, 11, 12, 30] [2]) (
    .cond (.t 30) (
     .seq (
      .reg [⟨some 2, .mv (.c (.bool false)), none, none, []⟩] false [2] []) (
     .ret)) (
     .skip))))) T_lin_Mat_Definite_0
def B_lin_Mat_Definite_2 : PCode :=
  .seq (
   .reg [⟨some 13, .bin 0 .lss (.t 12) (.t 11), none, none, []⟩] false [1, 3, 7, 8, 11, 12, 13] [2]) (
  .seq (
   .cond (.t 13) (
    .skip) (
    .exit 2)) T_lin_Mat_Definite_1)
def T_lin_Mat_Definite_3 : PCode :=
  .seq (
   .reg [⟨some 32, .mv (.t 3), none, none, []⟩,
     ⟨some 33, .bin 0 .add (.t 32) (.c (.int .i64 1)), none, none, []⟩,
     ⟨some 34, .clos 55 [.t 1], none, none, []⟩,
     ⟨some 35, .call (.c (.fn 48 [])) [.t 33, .t 34] none none, none, none, []⟩,
     ⟨some 5, .mv (.t 35), none, none, []⟩] false [1, 5, 7, 8] [2]) (
  .seq (
   .reg [⟨some 36, .mv (.t 5), none, none, []⟩,
     ⟨some 37, .call (.c (.fn 11 [])) [.t 36] none none, none, none, []⟩,
     ⟨some 38, .call (.c (.fn 12 [])) [.t 37] none none, none, none, []⟩,
     ⟨some 39, .bin 0 .leq (.t 38) (.c (.int .i64 0)), none, none, []⟩] false [1, 7, 8, 39] [2]) (
  .cond (.t 39) (
   .seq (
    .reg [⟨some 2, .mv (.c (.bool false)), none, none, []⟩] false [2] []) (
   .ret)) (
   .skip)))
def T_lin_Mat_Definite_4 : PCode :=
  .reg [⟨some 40, .bin 0 .add (.t 8) (.c (.int .i64 1)), none, none, []⟩,
    ⟨some 8, .mv (.t 40), none, none, []⟩] false [1, 7, 8] [2]
def T_lin_Mat_Definite_5 : PCode :=
  .seq (
   .block 1 (
    .seq (
     .reg [⟨some 10, .mv (.t 8), none, none, []⟩,
       ⟨some 3, .mv (.t 10), none, none, []⟩] false [1, 3, 7, 8] [2]) (
    .seq (
     .seq (
      .reg [⟨some 11, .mv (.t 3), none, none, []⟩,
        ⟨some 12, .mv (.c (.int .i64 0)), none, none, []⟩] false [1, 3, 7, 8, 11, 12] [2]) (
     .block 2 (
      .loop B_lin_Mat_Definite_2))) T_lin_Mat_Definite_3))) T_lin_Mat_Definite_4
def B_lin_Mat_Definite_6 : PCode :=
  .seq (
   .reg [⟨some 9, .bin 0 .lss (.t 8) (.t 7), none, none, []⟩] false [1, 7, 8, 9] [2]) (
  .seq (
   .cond (.t 9) (
    .skip) (
    .exit 0)) T_lin_Mat_Definite_5)
def T_lin_Mat_Definite_7 : PCode :=
  .seq (
   .reg [⟨some 2, .mv (.c (.bool true)), none, none, []⟩] false [2] []) (
  .ret)
def C_lin_Mat_Definite : PCode :=
  .seq (
   .reg [⟨some 1, .box 2 (.t 0), none, none, []⟩,
     ⟨some 2, .mv (.c (.bool false)), none, none, []⟩] false [1] [2]) (
  .seq (
   .seq (
    .reg [⟨some 6, .load 1 false (.t 1), none, none, []⟩,
      ⟨some 7, .len false (.t 6), none, none, []⟩,
      ⟨some 8, .mv (.c (.int .i64 0)), none, none, []⟩] false [1, 7, 8] [2]) (
   .block 0 (
    .loop B_lin_Mat_Definite_6))) T_lin_Mat_Definite_7)
def D_lin_Mat_Definite : PFunc := ⟨1, [.tmp 2], false, C_lin_Mat_Definite⟩
abbrev F_lin_Mat_Definite : Nat := 22

/-- gimbal/gimballaw07.wholes -/
def T_law07_wholes_0 : PCode :=
  .seq (
   .block 1 (
    .reg [⟨some 11, .mv (.t 3), none, none, []⟩,
      ⟨some 12, .mv (.t 0), none, none, []⟩,
      ⟨some 13, .mv (.t 4), none, none, []⟩,
      ⟨some 14, .idx 1 (.t 12) (.t 13), none, none, []⟩,
      ⟨some 15, .load 1 false (.t 14), none, none, []⟩,
      ⟨some 16, .call (.c (.fn 26 [])) [.t 15] none none, none, none, []⟩,
      ⟨some 17, .bin 2 .add (.t 11) (.t 16), none, none, []⟩,
      ⟨some 18, .bin 2 .add (.t 17) (.c (.str [59])), none, none, []⟩,
      ⟨some 3, .mv (.t 18), none, none, []⟩] false [0, 3, 4] [])) (
  .reg [⟨some 9, .mv (.t 4), none, none, []⟩,
    ⟨some 10, .bin 0 .add (.t 9) (.c (.int .i64 1)), none, none, []⟩,
    ⟨some 4, .mv (.t 10), none, none, []⟩] false [0, 3, 4] [])
def B_law07_wholes_1 : PCode :=
  .seq (
   .seq (
    .reg [⟨some 5, .mv (.t 4), none, none, []⟩,
      ⟨some 6, .mv (.t 0), none, none, []⟩,
      ⟨some 7, .len false (.t 6), none, none, []⟩,
      ⟨some 8, .bin 0 .lss (.t 5) (.t 7), none, none, []⟩] false [0, 3, 4, 8] []) (
   .cond (.t 8) (
    .skip) (
    .exit 0))) T_law07_wholes_0
def T_law07_wholes_2 : PCode :=
  .seq (
   .reg [⟨some 19, .mv (.t 3), none, none, []⟩,
     ⟨some 2, .mv (.t 19), none, none, []⟩] false [2] []) (
  .ret)
def C_law07_wholes : PCode :=
  .seq (
   .reg [⟨some 2, .mv (.c (.str [])), none, none, []⟩] false [0] []) (
  .seq (
   .reg [⟨some 3, .mv (.c (.str [])), none, none, []⟩] false [0, 3] []) (
  .seq (
   .seq (
    .reg [⟨some 4, .mv (.c (.int .i64 0)), none, none, []⟩] false [0, 3, 4] []) (
   .block 0 (
    .loop B_law07_wholes_1))) T_law07_wholes_2))
def D_law07_wholes : PFunc := ⟨1, [.tmp 2], false, C_law07_wholes⟩
abbrev F_law07_wholes : Nat := 23

/-- (gimbal/gimbalref07.Mat).Mul -/
def T_ref07_Mat_Mul_0 : PCode :=
  .seq (
   .block 1 (
    .reg [⟨some 16, .mv (.t 5), none, none, []⟩,
      ⟨some 17, .mv (.t 6), none, none, []⟩,
      ⟨some 18, .mv (.t 0), none, none, []⟩,
      ⟨some 19, .mv (.t 7), none, none, []⟩,
      ⟨some 20, .idx 1 (.t 18) (.t 19), none, none, []⟩,
      ⟨some 21, .load 1 false (.t 20), none, none, []⟩,
      ⟨some 22, .call (.c (.fn 27 [])) [.t 17, .t 21] none none, none, none, []⟩,
      ⟨some 23, .lits 24 1 1 [.t 22], none, none, []⟩,
      ⟨some 24, .app 6 1 24 (.t 16) (.t 23), none, none, []⟩,
      ⟨some 5, .mv (.t 24), none, none, []⟩] false [0, 5, 6, 7] [6])) (
  .reg [⟨some 14, .mv (.t 7), none, none, []⟩,
    ⟨some 15, .bin 0 .add (.t 14) (.c (.int .i64 1)), none, none, []⟩,
    ⟨some 7, .mv (.t 15), none, none, []⟩] false [0, 5, 6, 7] [6])
def B_ref07_Mat_Mul_1 : PCode :=
  .seq (
   .seq (
    .reg [⟨some 10, .mv (.t 7), none, none, []⟩,
      ⟨some 11, .mv (.t 0), none, none, []⟩,
      ⟨some 12, .len false (.t 11), none, none, []⟩,
      ⟨some 13, .bin 0 .lss (.t 10) (.t 12), none, none, []⟩] false [0, 5, 6, 7, 13] [6]) (
   .cond (.t 13) (
    .skip) (
    .exit 0))) T_ref07_Mat_Mul_0
def T_ref07_Mat_Mul_2 : PCode :=
  .seq (
   .reg [⟨some 25, .mv (.t 5), none, none, []⟩,
     ⟨some 4, .mv (.t 25), none, none, []⟩] false [4] [5, 6]) (
  .ret)
def C_ref07_Mat_Mul : PCode :=
  .seq (
   .reg [⟨some 4, .nils 5 1, none, none, []⟩] false [0, 1] []) (
  .seq (
   .reg [⟨some 5, .nils 6 1, none, none, []⟩] false [0, 1, 5] [6]) (
  .seq (
   .reg [⟨some 8, .mv (.t 1), none, none, []⟩,
     ⟨some 9, .call (.c (.fn 25 [])) [.t 8] none none, none, none, []⟩,
     ⟨some 6, .mv (.t 9), none, none, []⟩] false [0, 5, 6] [6]) (
  .seq (
   .seq (
    .reg [⟨some 7, .mv (.c (.int .i64 0)), none, none, []⟩] false [0, 5, 6, 7] [6]) (
   .block 0 (
    .loop B_ref07_Mat_Mul_1))) T_ref07_Mat_Mul_2)))
def D_ref07_Mat_Mul : PFunc := ⟨2, [.tmp 4], false, C_ref07_Mat_Mul⟩
abbrev F_ref07_Mat_Mul : Nat := 24

/-- (gimbal/gimbalref07.Mat).Turned -/
def T_ref07_Mat_Turned_0 : PCode :=
  .seq (
   .block 3 (
    .reg [⟨some 19, .mv (.t 5), none, none, []⟩,
      ⟨some 20, .mv (.t 0), none, none, []⟩,
      ⟨some 21, .mv (.t 6), none, none, []⟩,
      ⟨some 22, .idx 1 (.t 20) (.t 21), none, none, []⟩,
      ⟨some 23, .load 1 false (.t 22), none, none, []⟩,
      ⟨some 24, .mv (.t 4), none, none, []⟩,
      ⟨some 25, .idx 2 (.t 23) (.t 24), none, none, []⟩,
      ⟨some 26, .load 2 true (.t 25), none, none, []⟩,
      ⟨some 27, .lits 28 2 1 [.t 26], none, none, []⟩,
      ⟨some 28, .app 6 2 32 (.t 19) (.t 27), none, none, []⟩,
      ⟨some 5, .mv (.t 28), none, none, []⟩] false [0, 3, 4, 5, 6] [4, 6])) (
  .reg [⟨some 17, .mv (.t 6), none, none, []⟩,
    ⟨some 18, .bin 0 .add (.t 17) (.c (.int .i64 1)), none, none, []⟩,
    ⟨some 6, .mv (.t 18), none, none, []⟩] false [0, 3, 4, 5, 6] [4, 6])
def B_ref07_Mat_Turned_1 : PCode :=
  .seq (
   .seq (
    .reg [⟨some 13, .mv (.t 6), none, none, []⟩,
      ⟨some 14, .mv (.t 0), none, none, []⟩,
      ⟨some 15, .len false (.t 14), none, none, []⟩,
      ⟨some 16, .bin 0 .lss (.t 13) (.t 15), none, none, []⟩] false [0, 3, 4, 5, 6, 16] [4, 6]) (
   .cond (.t 16) (
    .skip) (
    .exit 2))) T_ref07_Mat_Turned_0
def T_ref07_Mat_Turned_2 : PCode :=
  .reg [⟨some 29, .mv (.t 3), none, none, []⟩,
    ⟨some 30, .mv (.t 5), none, none, []⟩,
    ⟨some 31, .lits 32 1 1 [.t 30], none, none, []⟩,
    ⟨some 32, .app 4 1 24 (.t 29) (.t 31), none, none, []⟩,
    ⟨some 3, .mv (.t 32), none, none, []⟩] false [0, 3, 4] [4, 6]
def T_ref07_Mat_Turned_3 : PCode :=
  .reg [⟨some 11, .mv (.t 4), none, none, []⟩,
    ⟨some 12, .bin 0 .add (.t 11) (.c (.int .i64 1)), none, none, []⟩,
    ⟨some 4, .mv (.t 12), none, none, []⟩] false [0, 3, 4] [4, 6]
def T_ref07_Mat_Turned_4 : PCode :=
  .seq (
   .block 1 (
    .seq (
     .reg [⟨some 5, .nils 6 2, none, none, []⟩] false [0, 3, 4, 5] [4, 6]) (
    .seq (
     .seq (
      .reg [⟨some 6, .mv (.c (.int .i64 0)), none, none, []⟩] false [0, 3, 4, 5, 6] [4, 6]) (
     .block 2 (
      .loop B_ref07_Mat_Turned_1))) T_ref07_Mat_Turned_2))) T_ref07_Mat_Turned_3
def B_ref07_Mat_Turned_5 : PCode :=
  .seq (
   .seq (
    .reg [⟨some 7, .mv (.t 4), none, none, []⟩,
      ⟨some 8, .mv (.t 0), none, none, []⟩,
      ⟨some 9, .len false (.t 8), none, none, []⟩,
      ⟨some 10, .bin 0 .lss (.t 7) (.t 9), none, none, []⟩] false [0, 3, 4, 10] [4, 6]) (
   .cond (.t 10) (
    .skip) (
    .exit 0))) T_ref07_Mat_Turned_4
def T_ref07_Mat_Turned_6 : PCode :=
  .seq (
   .reg [⟨some 33, .mv (.t 3), none, none, []⟩,
     ⟨some 2, .mv (.t 33), none, none, []⟩] false [2] [3, 4, 6]) (
  .ret)
def C_ref07_Mat_Turned : PCode :=
  .seq (
   .reg [⟨some 2, .nils 3 1, none, none, []⟩] false [0] []) (
  .seq (
   .reg [⟨some 3, .nils 4 1, none, none, []⟩] false [0, 3] [4, 6]) (
  .seq (
   .seq (
    .reg [⟨some 4, .mv (.c (.int .i64 0)), none, none, []⟩] false [0, 3, 4] [4, 6]) (
   .block 0 (
    .loop B_ref07_Mat_Turned_5))) T_ref07_Mat_Turned_6))
def D_ref07_Mat_Turned : PFunc := ⟨1, [.tmp 2], false, C_ref07_Mat_Turned⟩
abbrev F_ref07_Mat_Turned : Nat := 25

/-- gimbal/gimballaw07.texts -/
def T_law07_texts_0 : PCode :=
  .seq (
   .block 1 (
    .reg [⟨some 11, .mv (.t 3), none, none, []⟩,
      ⟨some 12, .mv (.t 0), none, none, []⟩,
      ⟨some 13, .mv (.t 4), none, none, []⟩,
      ⟨some 14, .idx 2 (.t 12) (.t 13), none, none, []⟩,
      ⟨some 15, .load 2 true (.t 14), none, none, []⟩,
      ⟨some 16, .call (.c (.fn 29 [])) [.t 15] none none, none, none, []⟩,
      ⟨some 17, .bin 2 .add (.t 11) (.t 16), none, none, []⟩,
      ⟨some 18, .bin 2 .add (.t 17) (.c (.str [32])), none, none, []⟩,
      ⟨some 3, .mv (.t 18), none, none, []⟩] false [0, 3, 4] [])) (
  .reg [⟨some 9, .mv (.t 4), none, none, []⟩,
    ⟨some 10, .bin 0 .add (.t 9) (.c (.int .i64 1)), none, none, []⟩,
    ⟨some 4, .mv (.t 10), none, none, []⟩] false [0, 3, 4] [])
def B_law07_texts_1 : PCode :=
  .seq (
   .seq (
    .reg [⟨some 5, .mv (.t 4), none, none, []⟩,
      ⟨some 6, .mv (.t 0), none, none, []⟩,
      ⟨some 7, .len false (.t 6), none, none, []⟩,
      ⟨some 8, .bin 0 .lss (.t 5) (.t 7), none, none, []⟩] false [0, 3, 4, 8] []) (
   .cond (.t 8) (
    .skip) (
    .exit 0))) T_law07_texts_0
def T_law07_texts_2 : PCode :=
  .seq (
   .reg [⟨some 19, .mv (.t 3), none, none, []⟩,
     ⟨some 2, .mv (.t 19), none, none, []⟩] false [2] []) (
  .ret)
def C_law07_texts : PCode :=
  .seq (
   .reg [⟨some 2, .mv (.c (.str [])), none, none, []⟩] false [0] []) (
  .seq (
   .reg [⟨some 3, .mv (.c (.str [])), none, none, []⟩] false [0, 3] []) (
  .seq (
   .seq (
    .reg [⟨some 4, .mv (.c (.int .i64 0)), none, none, []⟩] false [0, 3, 4] []) (
   .block 0 (
    .loop B_law07_texts_1))) T_law07_texts_2))
def D_law07_texts : PFunc := ⟨1, [.tmp 2], false, C_law07_texts⟩
abbrev F_law07_texts : Nat := 26

/-- (gimbal/gimbalref07.Mat).Apply -/
def T_ref07_Mat_Apply_0 : PCode :=
  .seq (
   .block 1 (
    .reg [⟨some 13, .mv (.t 5), none, none, []⟩,
      ⟨some 14, .mv (.t 0), none, none, []⟩,
      ⟨some 15, .mv (.t 6), none, none, []⟩,
      ⟨some 16, .idx 1 (.t 14) (.t 15), none, none, []⟩,
      ⟨some 17, .load 1 false (.t 16), none, none, []⟩,
      ⟨some 18, .mv (.t 1), none, none, []⟩,
      ⟨some 19, .call (.c (.fn 56 [])) [.t 17, .t 18] none none, none, none, []⟩,
      ⟨some 20, .lits 21 2 1 [.t 19], none, none, []⟩,
      ⟨some 21, .app 6 2 32 (.t 13) (.t 20), none, none, []⟩,
      ⟨some 5, .mv (.t 21), none, none, []⟩] false [0, 1, 5, 6] [6])) (
  .reg [⟨some 11, .mv (.t 6), none, none, []⟩,
    ⟨some 12, .bin 0 .add (.t 11) (.c (.int .i64 1)), none, none, []⟩,
    ⟨some 6, .mv (.t 12), none, none, []⟩] false [0, 1, 5, 6] [6])
def B_ref07_Mat_Apply_1 : PCode :=
  .seq (
   .seq (
    .reg [⟨some 7, .mv (.t 6), none, none, []⟩,
      ⟨some 8, .mv (.t 0), none, none, []⟩,
      ⟨some 9, .len false (.t 8), none, none, []⟩,
      ⟨some 10, .bin 0 .lss (.t 7) (.t 9), none, none, []⟩] false [0, 1, 5, 6, 10] [6]) (
   .cond (.t 10) (
    .skip) (
    .exit 0))) T_ref07_Mat_Apply_0
def T_ref07_Mat_Apply_2 : PCode :=
  .seq (
   .reg [⟨some 22, .mv (.t 5), none, none, []⟩,
     ⟨some 4, .mv (.t 22), none, none, []⟩] false [4] [5, 6]) (
  .ret)
def C_ref07_Mat_Apply : PCode :=
  .seq (
   .reg [⟨some 4, .nils 5 2, none, none, []⟩] false [0, 1] []) (
  .seq (
   .reg [⟨some 5, .nils 6 2, none, none, []⟩] false [0, 1, 5] [6]) (
  .seq (
   .seq (
    .reg [⟨some 6, .mv (.c (.int .i64 0)), none, none, []⟩] false [0, 1, 5, 6] [6]) (
   .block 0 (
    .loop B_ref07_Mat_Apply_1))) T_ref07_Mat_Apply_2))
def D_ref07_Mat_Apply : PFunc := ⟨2, [.tmp 4], true, C_ref07_Mat_Apply⟩
abbrev F_ref07_Mat_Apply : Nat := 27

/-- (gimbal/gimbalref07.Mat).Quad -/
def C_ref07_Mat_Quad : PCode :=
  .seq (
   .reg [⟨some 4, .alloc 5 [.bool false, .nil0] [], none, none, []⟩] false [0, 1, 4] [5]) (
  .seq (
   .reg [⟨some 5, .mv (.t 1), none, none, []⟩,
     ⟨some 6, .mv (.t 0), none, none, []⟩,
     ⟨some 7, .mv (.t 1), none, none, []⟩,
     ⟨some 8, .call (.c (.fn 27 [])) [.t 6, .t 7] none none, none, none, []⟩,
     ⟨some 9, .call (.c (.fn 56 [])) [.t 5, .t 8] none none, none, none, []⟩,
     ⟨none, .store 2 (.t 4) (.t 9), none, none, []⟩] false [4] [5]) (
  .ret))
def D_ref07_Mat_Quad : PFunc := ⟨2, [.cell 4 2 true], false, C_ref07_Mat_Quad⟩
abbrev F_ref07_Mat_Quad : Nat := 28

/-- (gimbal/gimbalref01.Int).String -/
def T_ref01_Int_String_0 : PCode :=
  .seq (
   .block 1 (
    .reg [⟨some 22, .mv (.t 3), none, none, []⟩,
      ⟨some 23, .field 1 1 (.t 1), none, none, []⟩,
      ⟨some 24, .load 1 false (.t 23), none, none, []⟩,
      ⟨some 25, .mv (.t 4), none, none, []⟩,
      ⟨some 26, .idx 1 (.t 24) (.t 25), none, none, []⟩,
      ⟨some 27, .load 1 false (.t 26), none, none, []⟩,
      ⟨some 28, .bin 0 .add (.c (.int .i64 48)) (.t 27), none, none, []⟩,
      ⟨some 29, .conv .u8 (.t 28), none, none, []⟩,
      ⟨some 30, .lits 31 1 1 [.t 29], none, none, []⟩,
      ⟨some 31, .app 4 1 1 (.t 22) (.t 30), none, none, []⟩,
      ⟨some 3, .mv (.t 31), none, none, []⟩] false [1, 3, 4] [2, 4])) (
  .reg [⟨some 20, .mv (.t 4), none, none, []⟩,
    ⟨some 21, .bin 0 .sub (.t 20) (.c (.int .i64 1)), none, none, []⟩,
    ⟨some 4, .mv (.t 21), none, none, []⟩] false [1, 3, 4] [2, 4])
def B_ref01_Int_String_1 : PCode :=
  .seq (
   .seq (
    .reg [⟨some 18, .mv (.t 4), none, none, []⟩,
      ⟨some 19, .bin 0 .geq (.t 18) (.c (.int .i64 0)), none, none, []⟩] false [1, 3, 4, 19] [2, 4]) (
   .cond (.t 19) (
    .skip) (
    .exit 0))) T_ref01_Int_String_0
def T_ref01_Int_String_2 : PCode :=
  .seq (
   .reg [⟨some 32, .mv (.t 3), none, none, []⟩,
     ⟨some 33, .tostr (.t 32), none, none, []⟩,
     ⟨some 2, .mv (.t 33), none, none, []⟩] false [2] []) (
  .ret)
def T_ref01_Int_String_3 : PCode :=
  .seq (
   .seq (
    .reg [⟨some 14, .field 1 1 (.t 1), none, none, []⟩,
      ⟨some 15, .load 1 false (.t 14), none, none, []⟩,
      ⟨some 16, .len false (.t 15), none, none, []⟩,
      ⟨some 17, .bin 0 .sub (.t 16) (.c (.int .i64 1)), none, none, []⟩,
      ⟨some 4, .mv (.t 17), none, none, []⟩] false [1, 3, 4] [2, 4]) (
   .block 0 (
    .loop B_ref01_Int_String_1))) T_ref01_Int_String_2
def T_ref01_Int_String_4 : PCode :=
  .seq (
   .reg [⟨some 3, .nils 4 1, none, none, []⟩] false [1, 3] [2, 4]) (
  .seq (
   .seq (
    .reg [⟨some 9, .field 0 1 (.t 1), none, none, []⟩,
      ⟨some 10, .load 1 false (.t 9), none, none, []⟩] false [1, 3, 10] [2, 4]) (
   .cond (.t 10) (
    .reg [⟨some 11, .mv (.t 3), none, none, []⟩,
      ⟨some 12, .lits 13 1 1 [.c (.int .u8 45)], none, none, []⟩,
      ⟨some 13, .app 4 1 1 (.t 11) (.t 12), none, none, []⟩,
      ⟨some 3, .mv (.t 13), none, none, []⟩] false [1, 3] [2, 4]) (
    .skip))) T_ref01_Int_String_3)
def C_ref01_Int_String : PCode :=
  .seq (
   .reg [⟨some 1, .box 2 (.t 0), none, none, []⟩,
     ⟨some 2, .mv (.c (.str [])), none, none, []⟩] false [1] [2]) (
  .seq (
   .seq (
    .reg [⟨some 5, .field 1 1 (.t 1), none, none, []⟩,
      ⟨some 6, .load 1 false (.t 5), none, none, []⟩,
      ⟨some 7, .len false (.t 6), none, none, []⟩,
      ⟨some 8, .bin 0 .eql (.t 7) (.c (.int .i64 0)), none, none, []⟩] false [1, 8] [2]) (
   .cond (.t 8) (
    .seq (
     .reg [⟨some 2, .mv (.c (.str [48])), none, none, []⟩] false [2] []) (
    .ret)) (
    .skip))) T_ref01_Int_String_4)
def D_ref01_Int_String : PFunc := ⟨1, [.tmp 2], false, C_ref01_Int_String⟩
abbrev F_ref01_Int_String : Nat := 29

/-- (gimbal/gimbalref07.Mat).Definite -/
def T_ref07_Mat_Definite_0 : PCode :=
  .reg [⟨some 17, .mv (.t 5), none, none, []⟩,
    ⟨some 18, .bin 0 .add (.t 17) (.c (.int .i64 1)), none, none, []⟩,
    ⟨some 5, .mv (.t 18), none, none, []⟩] false [0, 3, 4, 5] [5]
def T_ref07_Mat_Definite_1 : PCode :=
  .seq (
   .block 3 (
    .seq (
     .reg [⟨some 19, .mv (.t 4), none, none, []⟩,
       ⟨some 20, .mv (.t 0), none, none, []⟩,
       ⟨some 21, .mv (.t 5), none, none, []⟩,
       ⟨some 22, .idx 1 (.t 20) (.t 21), none, none, []⟩,
       ⟨some 23, .load 1 false (.t 22), none, none, []⟩,
       ⟨some 24, .mv (.t 3), none, none, []⟩,
       ⟨some 25, .bin 0 .add (.t 24) (.c (.int .i64 1)), none, none, []⟩,
       ⟨some 26, .slice false 2 (.t 23) none (some (.t 25)) none, none, none, []⟩,
       ⟨some 27, .lits 28 1 1 [.t 26], none, none, []⟩,
       ⟨some 28, .app 5 1 24 (.t 19) (.t 27), none, none, []⟩,
       ⟨some 4, .mv (.t 28), none, none, []⟩] false [0, 3, 4, 5] [5]) (
    .seq (
     .reg [⟨some 29, .mv (.t 0), none, none, []⟩,
       ⟨some 30, .mv (.t 3), none, none, []⟩,
       ⟨some 31, .idx 1 (.t 29) (.t 30), none, none, []⟩,
       ⟨some 32, .load 1 false (.t 31), none, none, []⟩,
       ⟨some 33, .mv (.t 5), none, none, []⟩,
       ⟨some 34, .idx 2 (.t 32) (.t 33), none, none, []⟩,
       ⟨some 35, .load 2 true (.t 34), none, none, []⟩,
       ⟨some 36, .mv (.t 0), none, none, []⟩,
       ⟨some 37, .mv (.t 5), none, none, []⟩,
       ⟨some 38, .idx 1 (.t 36) (.t 37), none, none, []⟩,
       ⟨some 39, .load 1 false (.t 38), none, none, []⟩,
       ⟨some 40, .mv (.t 3), none, none, []⟩,
       ⟨some 41, .idx 2 (.t 39) (.t 40), none, none, []⟩,
       ⟨some 42, .load 2 true (.t 41), none, none, []⟩,
       ⟨some 43, .call (.c (.fn 57 [])) [.t 35, .t 42] none none, none, none, []⟩,
       ⟨some 6, .mv (.t 43), none, none, []⟩] true [0, 3, 4, 5, 6] [5]) (
    .seq (
     .reg [⟨some 44, .mv (.t 6), none, none, []⟩,
       ⟨some 45, .bin 0 .neq (.t 44) (.c (.int .i64 0)), none, none, []⟩] false [0, 3, 4, 5, 45] [5]) (
    .cond (.t 45) (
     .seq (
      .reg [⟨some 2, .mv (.c (.bool false)), none, none, []⟩] false [2] []) (
     .ret)) (
     .skip)))))) T_ref07_Mat_Definite_0
def B_ref07_Mat_Definite_2 : PCode :=
  .seq (
   .seq (
    .reg [⟨some 14, .mv (.t 5), none, none, []⟩,
      ⟨some 15, .mv (.t 3), none, none, []⟩,
      ⟨some 16, .bin 0 .leq (.t 14) (.t 15), none, none, []⟩] false [0, 3, 4, 5, 16] [5]) (
   .cond (.t 16) (
    .skip) (
    .exit 2))) T_ref07_Mat_Definite_1
def T_ref07_Mat_Definite_3 : PCode :=
  .seq (
   .reg [⟨some 46, .mv (.t 4), none, none, []⟩,
     ⟨some 47, .call (.c (.fn 58 [])) [.t 46] none none, none, none, []⟩,
     ⟨some 48, .call (.c (.fn 59 [])) [.t 47] none none, none, none, []⟩,
     ⟨some 7, .mv (.t 48), none, none, []⟩] false [0, 3, 7] []) (
  .seq (
   .reg [⟨some 49, .mv (.t 7), none, none, []⟩,
     ⟨some 50, .bin 0 .leq (.t 49) (.c (.int .i64 0)), none, none, []⟩] false [0, 3, 50] []) (
  .cond (.t 50) (
   .seq (
    .reg [⟨some 2, .mv (.c (.bool false)), none, none, []⟩] false [2] []) (
   .ret)) (
   .skip)))
def T_ref07_Mat_Definite_4 : PCode :=
  .reg [⟨some 12, .mv (.t 3), none, none, []⟩,
    ⟨some 13, .bin 0 .add (.t 12) (.c (.int .i64 1)), none, none, []⟩,
    ⟨some 3, .mv (.t 13), none, none, []⟩] false [0, 3] []
def T_ref07_Mat_Definite_5 : PCode :=
  .seq (
   .block 1 (
    .seq (
     .reg [⟨some 4, .nils 5 1, none, none, []⟩] false [0, 3, 4] [5]) (
    .seq (
     .seq (
      .reg [⟨some 5, .mv (.c (.int .i64 0)), none, none, []⟩] false [0, 3, 4, 5] [5]) (
     .block 2 (
      .loop B_ref07_Mat_Definite_2))) T_ref07_Mat_Definite_3))) T_ref07_Mat_Definite_4
def B_ref07_Mat_Definite_6 : PCode :=
  .seq (
   .seq (
    .reg [⟨some 8, .mv (.t 3), none, none, []⟩,
      ⟨some 9, .mv (.t 0), none, none, []⟩,
      ⟨some 10, .len false (.t 9), none, none, []⟩,
      ⟨some 11, .bin 0 .lss (.t 8) (.t 10), none, none, []⟩] false [0, 3, 11] []) (
   .cond (.t 11) (
    .skip) (
    .exit 0))) T_ref07_Mat_Definite_5
def T_ref07_Mat_Definite_7 : PCode :=
  .seq (
   .reg [⟨some 2, .mv (.c (.bool true)), none, none, []⟩] false [2] []) (
  .ret)
def C_ref07_Mat_Definite : PCode :=
  .seq (
   .reg [⟨some 2, .mv (.c (.bool false)), none, none, []⟩] false [0] []) (
  .seq (
   .seq (
    .reg [⟨some 3, .mv (.c (.int .i64 0)), none, none, []⟩] false [0, 3] []) (
   .block 0 (
    .loop B_ref07_Mat_Definite_6))) T_ref07_Mat_Definite_7)
def D_ref07_Mat_Definite : PFunc := ⟨1, [.tmp 2], false, C_ref07_Mat_Definite⟩
abbrev F_ref07_Mat_Definite : Nat := 30

/-- (gimbal/long.Int).Add -/
def T_long_Int_Add_0 : PCode :=
  .seq (
   .reg [⟨some 34, .field 0 1 (.t 3), none, none, []⟩,
     ⟨some 35, .load 1 false (.t 34), none, none, []⟩,
     ⟨some 36, .field 1 1 (.t 3), none, none, []⟩,
     ⟨some 37, .load 1 false (.t 36), none, none, []⟩,
     ⟨some 38, .field 1 1 (.t 2), none, none, []⟩,
     ⟨some 39, .load 1 false (.t 38), none, none, []⟩,
     ⟨some 40, .call (.c (.fn 62 [])) [.t 37, .t 39] none none, none, none, []⟩,
     ⟨some 41, .call (.c (.fn 47 [])) [.t 35, .t 40] none none, none, none, []⟩,
     ⟨none, .store 2 (.t 4) (.t 41), none, none, []⟩] true [4] [5]) (
  .ret)
def C_long_Int_Add : PCode :=
  .seq (
   .reg [⟨some 2, .box 3 (.t 0), none, none, []⟩,
     ⟨some 3, .box 4 (.t 1), none, none, []⟩,
     ⟨some 4, .alloc 5 [.bool false, .nil0] [], none, none, []⟩] false [2, 3, 4] [3, 4, 5]) (
  .seq (
   .block 0 (
    .seq (
     .reg [⟨some 6, .field 0 1 (.t 2), none, none, []⟩,
       ⟨some 7, .load 1 false (.t 6), none, none, []⟩,
       ⟨some 8, .field 0 1 (.t 3), none, none, []⟩,
       ⟨some 9, .load 1 false (.t 8), none, none, []⟩,
       ⟨some 10, .bin 1 .eql (.t 7) (.t 9), none, none, []⟩,
       ⟨some 5, .mv (.t 10), none, none, []⟩] false [2, 3, 4, 5] [3, 4, 5]) (
    .cond (.t 5) (
     .seq (
      .reg [⟨some 11, .field 0 1 (.t 2), none, none, []⟩,
        ⟨some 12, .load 1 false (.t 11), none, none, []⟩,
        ⟨some 13, .field 1 1 (.t 2), none, none, []⟩,
        ⟨some 14, .load 1 false (.t 13), none, none, []⟩,
        ⟨some 15, .field 1 1 (.t 3), none, none, []⟩,
        ⟨some 16, .load 1 false (.t 15), none, none, []⟩,
        ⟨some 17, .call (.c (.fn 60 [])) [.t 14, .t 16] none none, none, none, []⟩,
        ⟨some 18, .call (.c (.fn 47 [])) [.t 12, .t 17] none none, none, none, []⟩,
        ⟨none, .store 2 (.t 4) (.t 18), none, none, []⟩] true [4] [5]) (
     .ret)) (
     .seq (
      .reg [⟨some 20, .field 1 1 (.t 2), none, none, []⟩,
        ⟨some 21, .load 1 false (.t 20), none, none, []⟩,
        ⟨some 22, .field 1 1 (.t 3), none, none, []⟩,
        ⟨some 23, .load 1 false (.t 22), none, none, []⟩,
        ⟨some 24, .call (.c (.fn 61 [])) [.t 21, .t 23] none none, none, none, []⟩,
        ⟨some 25, .bin 0 .geq (.t 24) (.c (.int .i64 0)), none, none, []⟩,
        ⟨some 19, .mv (.t 25), none, none, []⟩] false [2, 3, 4, 19] [3, 4, 5]) (
     .cond (.t 19) (
      .seq (
       .reg [⟨some 26, .field 0 1 (.t 2), none, none, []⟩,
         ⟨some 27, .load 1 false (.t 26), none, none, []⟩,
         ⟨some 28, .field 1 1 (.t 2), none, none, []⟩,
         ⟨some 29, .load 1 false (.t 28), none, none, []⟩,
         ⟨some 30, .field 1 1 (.t 3), none, none, []⟩,
         ⟨some 31, .load 1 false (.t 30), none, none, []⟩,
         ⟨some 32, .call (.c (.fn 62 [])) [.t 29, .t 31] none none, none, none, []⟩,
         ⟨some 33, .call (.c (.fn 47 [])) [.t 27, .t 32] none none, none, none, []⟩,
         ⟨none, .store 2 (.t 4) (.t 33), none, none, []⟩] true [4] [5]) (
      .ret)) (
      .skip)))))) T_long_Int_Add_0)
def D_long_Int_Add : PFunc := ⟨2, [.cell 4 2 true], false, C_long_Int_Add⟩
abbrev F_long_Int_Add : Nat := 31

/-- gimbal/long.Of -/
def T_long_Of_0 : PCode :=
  .seq (
   .reg [⟨some 10, .mv (.t 0), none, none, []⟩,
     ⟨some 11, .bin 0 .lss (.t 10) (.c (.int .i64 0)), none, none, []⟩,
     ⟨some 12, .mv (.t 3), none, none, []⟩,
     ⟨some 13, .conv .u32 (.t 12), none, none, []⟩,
     ⟨some 14, .mv (.t 3), none, none, []⟩,
     ⟨some 15, .bin 0 .shr (.t 14) (.c (.int .u64 32)), none, none, []⟩,
     ⟨some 16, .conv .u32 (.t 15), none, none, []⟩,
     ⟨some 17, .lits 18 1 2 [.t 13, .t 16], none, none, []⟩,
     ⟨some 18, .call (.c (.fn 47 [])) [.t 11, .t 17] none none, none, none, []⟩,
     ⟨none, .store 2 (.t 2) (.t 18), none, none, []⟩] false [2] [3]) (
  .ret)
def C_long_Of : PCode :=
  .seq (
   .reg [⟨some 2, .alloc 3 [.bool false, .nil0] [], none, none, []⟩] false [0, 2] [3]) (
  .seq (
   .reg [⟨some 4, .mv (.t 0), none, none, []⟩,
     ⟨some 5, .conv .u64 (.t 4), none, none, []⟩,
     ⟨some 3, .mv (.t 5), none, none, []⟩] false [0, 2, 3] [3]) (
  .seq (
   .seq (
    .reg [⟨some 6, .mv (.t 0), none, none, []⟩,
      ⟨some 7, .bin 0 .lss (.t 6) (.c (.int .i64 0)), none, none, []⟩] false [0, 2, 3, 7] [3]) (
   .cond (.t 7) (
    .reg [⟨some 8, .mv (.t 3), none, none, []⟩,
      ⟨some 9, .un .neg (.t 8), none, none, []⟩,
      ⟨some 3, .mv (.t 9), none, none, []⟩] false [0, 2, 3] [3]) (
    .skip))) T_long_Of_0))
def D_long_Of : PFunc := ⟨1, [.cell 2 2 true], false, C_long_Of⟩
abbrev F_long_Of : Nat := 32

/-- (gimbal/long.Int).Neg -/
def C_long_Int_Neg : PCode :=
  .seq (
   .reg [⟨some 1, .box 2 (.t 0), none, none, []⟩,
     ⟨some 2, .alloc 3 [.bool false, .nil0] [], none, none, []⟩] false [1, 2] [2, 3]) (
  .seq (
   .reg [⟨some 3, .field 0 1 (.t 1), none, none, []⟩,
     ⟨some 4, .load 1 false (.t 3), none, none, []⟩,
     ⟨some 5, .un .not (.t 4), none, none, []⟩,
     ⟨some 6, .field 1 1 (.t 1), none, none, []⟩,
     ⟨some 7, .load 1 false (.t 6), none, none, []⟩,
     ⟨some 8, .call (.c (.fn 47 [])) [.t 5, .t 7] none none, none, none, []⟩,
     ⟨none, .store 2 (.t 2) (.t 8), none, none, []⟩] false [2] [3]) (
  .ret))
def D_long_Int_Neg : PFunc := ⟨1, [.cell 2 2 true], false, C_long_Int_Neg⟩
abbrev F_long_Int_Neg : Nat := 33

/-- gimbal/lin.Of -/
def T_lin_Of_0 : PCode :=
  .reg [⟨some 20, .bin 0 .add (.t 11) (.c (.int .i64 1)), none, none, []⟩,
    ⟨some 11, .mv (.t 20), none, none, []⟩] false [1, 9, 10, 11] [2]
def T_lin_Of_1 : PCode :=
  .seq (
   .block 1 (
    .seq (
     .reg [⟨some 13, .idx 1 (.t 9) (.t 11), none, none, []⟩,
       ⟨some 14, .load 1 false (.t 13), none, none, []⟩,
       ⟨some 5, .mv (.t 14), none, none, []⟩] false [1, 5, 9, 10, 11] [2]) (
    .seq (
     .reg [⟨some 15, .mv (.t 5), none, none, []⟩,
       ⟨some 16, .len false (.t 15), none, none, []⟩,
       ⟨some 17, .load 1 false (.t 1), none, none, []⟩,
       ⟨some 18, .len false (.t 17), none, none, []⟩,
       ⟨some 19, .bin 0 .neq (.t 16) (.t 18), none, none, []⟩] false [1, 9, 10, 11, 19] [2]) (
    .cond (.t 19) (
     .seq (
      .reg [⟨some 2, .nils 3 1, none, none, []⟩,
        ⟨some 3, .mv (.c (.int .i64 1)), none, none, []⟩] false [2, 3] [3]) (
     .ret)) (
     .skip))))) T_lin_Of_0
def B_lin_Of_2 : PCode :=
  .seq (
   .reg [⟨some 12, .bin 0 .lss (.t 11) (.t 10), none, none, []⟩] false [1, 9, 10, 11, 12] [2]) (
  .seq (
   .cond (.t 12) (
    .skip) (
    .exit 0)) T_lin_Of_1)
def T_lin_Of_3 : PCode :=
  .seq (
   .reg [⟨some 21, .load 1 false (.t 1), none, none, []⟩,
     ⟨some 22, .len false (.t 21), none, none, []⟩,
     ⟨some 23, .clos 63 [.t 1], none, none, []⟩,
     ⟨some 24, .call (.c (.fn 48 [])) [.t 22, .t 23] none none, none, none, []⟩,
     ⟨some 2, .mv (.t 24), none, none, []⟩,
     ⟨some 3, .mv (.c (.int .i64 0)), none, none, []⟩] false [2, 3] [3]) (
  .ret)
def T_lin_Of_4 : PCode :=
  .seq (
   .seq (
    .reg [⟨some 9, .load 1 false (.t 1), none, none, []⟩,
      ⟨some 10, .len false (.t 9), none, none, []⟩,
      ⟨some 11, .mv (.c (.int .i64 0)), none, none, []⟩] false [1, 9, 10, 11] [2]) (
   .block 0 (
    .loop B_lin_Of_2))) T_lin_Of_3
def C_lin_Of : PCode :=
  .seq (
   .reg [⟨some 1, .box 2 (.t 0), none, none, []⟩,
     ⟨some 2, .nils 3 1, none, none, []⟩,
     ⟨some 3, .mv (.c (.int .i64 0)), none, none, []⟩] false [1] [2]) (
  .seq (
   .seq (
    .reg [⟨some 6, .load 1 false (.t 1), none, none, []⟩,
      ⟨some 7, .len false (.t 6), none, none, []⟩,
      ⟨some 8, .bin 0 .gtr (.t 7) (.c (.int .i64 12)), none, none, []⟩] false [1, 8] [2]) (
   .cond (.t 8) (
    .seq (
     .reg [⟨some 2, .nils 3 1, none, none, []⟩,
       ⟨some 3, .mv (.c (.int .i64 2)), none, none, []⟩] false [2, 3] [3]) (
    .ret)) (
    .skip))) T_lin_Of_4)
def D_lin_Of : PFunc := ⟨1, [.tmp 2, .tmp 3], false, C_lin_Of⟩
abbrev F_lin_Of : Nat := 34

/-- gimbal/gimballaw07.square -/
def T_law07_square_0 : PCode :=
  .reg [⟨some 14, .mv (.t 5), none, none, []⟩,
    ⟨some 15, .bin 0 .add (.t 14) (.c (.int .i64 1)), none, none, []⟩,
    ⟨some 5, .mv (.t 15), none, none, []⟩] false [0, 5] []
def T_law07_square_1 : PCode :=
  .seq (
   .block 1 (
    .seq (
     .reg [⟨some 16, .mv (.t 0), none, none, []⟩,
       ⟨some 17, .mv (.t 5), none, none, []⟩,
       ⟨some 18, .idx 1 (.t 16) (.t 17), none, none, []⟩,
       ⟨some 19, .load 1 false (.t 18), none, none, []⟩,
       ⟨some 20, .len false (.t 19), none, none, []⟩,
       ⟨some 21, .mv (.t 0), none, none, []⟩,
       ⟨some 22, .len false (.t 21), none, none, []⟩,
       ⟨some 23, .bin 0 .neq (.t 20) (.t 22), none, none, []⟩] false [0, 5, 23] []) (
    .cond (.t 23) (
     .seq (
      .reg [⟨some 4, .mv (.c (.bool false)), none, none, []⟩] false [4] []) (
     .ret)) (
     .skip)))) T_law07_square_0
def B_law07_square_2 : PCode :=
  .seq (
   .seq (
    .reg [⟨some 10, .mv (.t 5), none, none, []⟩,
      ⟨some 11, .mv (.t 0), none, none, []⟩,
      ⟨some 12, .len false (.t 11), none, none, []⟩,
      ⟨some 13, .bin 0 .lss (.t 10) (.t 12), none, none, []⟩] false [0, 5, 13] []) (
   .cond (.t 13) (
    .skip) (
    .exit 0))) T_law07_square_1
def T_law07_square_3 : PCode :=
  .seq (
   .reg [⟨some 4, .mv (.c (.bool true)), none, none, []⟩] false [4] []) (
  .ret)
def T_law07_square_4 : PCode :=
  .seq (
   .seq (
    .reg [⟨some 5, .mv (.c (.int .i64 0)), none, none, []⟩] false [0, 5] []) (
   .block 0 (
    .loop B_law07_square_2))) T_law07_square_3
def C_law07_square : PCode :=
  .seq (
   .reg [⟨some 4, .mv (.c (.bool false)), none, none, []⟩] false [0, 1] []) (
  .seq (
   .seq (
    .reg [⟨some 6, .mv (.t 0), none, none, []⟩,
      ⟨some 7, .len false (.t 6), none, none, []⟩,
      ⟨some 8, .mv (.t 1), none, none, []⟩,
      ⟨some 9, .bin 0 .gtr (.t 7) (.t 8), none, none, []⟩] false [0, 9] []) (
   .cond (.t 9) (
    .seq (
     .reg [⟨some 4, .mv (.c (.bool false)), none, none, []⟩] false [4] []) (
    .ret)) (
    .skip))) T_law07_square_4)
def D_law07_square : PFunc := ⟨2, [.tmp 4], false, C_law07_square⟩
abbrev F_law07_square : Nat := 35

/-- gimbal/gimbalref07.Of -/
def T_ref07_Of_0 : PCode :=
  .seq (
   .block 3 (
    .reg [⟨some 22, .mv (.t 5), none, none, []⟩,
      ⟨some 23, .mv (.t 0), none, none, []⟩,
      ⟨some 24, .mv (.t 4), none, none, []⟩,
      ⟨some 25, .idx 1 (.t 23) (.t 24), none, none, []⟩,
      ⟨some 26, .load 1 false (.t 25), none, none, []⟩,
      ⟨some 27, .mv (.t 6), none, none, []⟩,
      ⟨some 28, .idx 1 (.t 26) (.t 27), none, none, []⟩,
      ⟨some 29, .load 1 false (.t 28), none, none, []⟩,
      ⟨some 30, .call (.c (.fn 37 [])) [.t 29] none none, none, none, []⟩,
      ⟨some 31, .lits 32 2 1 [.t 30], none, none, []⟩,
      ⟨some 32, .app 6 2 32 (.t 22) (.t 31), none, none, []⟩,
      ⟨some 5, .mv (.t 32), none, none, []⟩] false [0, 3, 4, 5, 6] [4, 6])) (
  .reg [⟨some 20, .mv (.t 6), none, none, []⟩,
    ⟨some 21, .bin 0 .add (.t 20) (.c (.int .i64 1)), none, none, []⟩,
    ⟨some 6, .mv (.t 21), none, none, []⟩] false [0, 3, 4, 5, 6] [4, 6])
def B_ref07_Of_1 : PCode :=
  .seq (
   .seq (
    .reg [⟨some 13, .mv (.t 6), none, none, []⟩,
      ⟨some 14, .mv (.t 0), none, none, []⟩,
      ⟨some 15, .mv (.t 4), none, none, []⟩,
      ⟨some 16, .idx 1 (.t 14) (.t 15), none, none, []⟩,
      ⟨some 17, .load 1 false (.t 16), none, none, []⟩,
      ⟨some 18, .len false (.t 17), none, none, []⟩,
      ⟨some 19, .bin 0 .lss (.t 13) (.t 18), none, none, []⟩] false [0, 3, 4, 5, 6, 19] [4, 6]) (
   .cond (.t 19) (
    .skip) (
    .exit 2))) T_ref07_Of_0
def T_ref07_Of_2 : PCode :=
  .reg [⟨some 33, .mv (.t 3), none, none, []⟩,
    ⟨some 34, .mv (.t 5), none, none, []⟩,
    ⟨some 35, .lits 36 1 1 [.t 34], none, none, []⟩,
    ⟨some 36, .app 4 1 24 (.t 33) (.t 35), none, none, []⟩,
    ⟨some 3, .mv (.t 36), none, none, []⟩] false [0, 3, 4] [4, 6]
def T_ref07_Of_3 : PCode :=
  .reg [⟨some 11, .mv (.t 4), none, none, []⟩,
    ⟨some 12, .bin 0 .add (.t 11) (.c (.int .i64 1)), none, none, []⟩,
    ⟨some 4, .mv (.t 12), none, none, []⟩] false [0, 3, 4] [4, 6]
def T_ref07_Of_4 : PCode :=
  .seq (
   .block 1 (
    .seq (
     .reg [⟨some 5, .nils 6 2, none, none, []⟩] false [0, 3, 4, 5] [4, 6]) (
    .seq (
     .seq (
      .reg [⟨some 6, .mv (.c (.int .i64 0)), none, none, []⟩] false [0, 3, 4, 5, 6] [4, 6]) (
     .block 2 (
      .loop B_ref07_Of_1))) T_ref07_Of_2))) T_ref07_Of_3
def B_ref07_Of_5 : PCode :=
  .seq (
   .seq (
    .reg [⟨some 7, .mv (.t 4), none, none, []⟩,
      ⟨some 8, .mv (.t 0), none, none, []⟩,
      ⟨some 9, .len false (.t 8), none, none, []⟩,
      ⟨some 10, .bin 0 .lss (.t 7) (.t 9), none, none, []⟩] false [0, 3, 4, 10] [4, 6]) (
   .cond (.t 10) (
    .skip) (
    .exit 0))) T_ref07_Of_4
def T_ref07_Of_6 : PCode :=
  .seq (
   .reg [⟨some 37, .mv (.t 3), none, none, []⟩,
     ⟨some 2, .mv (.t 37), none, none, []⟩] false [2] [3, 4, 6]) (
  .ret)
def C_ref07_Of : PCode :=
  .seq (
   .reg [⟨some 2, .nils 3 1, none, none, []⟩] false [0] []) (
  .seq (
   .reg [⟨some 3, .nils 4 1, none, none, []⟩] false [0, 3] [4, 6]) (
  .seq (
   .seq (
    .reg [⟨some 4, .mv (.c (.int .i64 0)), none, none, []⟩] false [0, 3, 4] [4, 6]) (
   .block 0 (
    .loop B_ref07_Of_5))) T_ref07_Of_6))
def D_ref07_Of : PFunc := ⟨1, [.tmp 2], false, C_ref07_Of⟩
abbrev F_ref07_Of : Nat := 36

/-- gimbal/gimbalref01.Of -/
def T_ref01_Of_0 : PCode :=
  .seq (
   .reg [⟨some 16, .mv (.t 3), none, none, []⟩,
     ⟨some 17, .mv (.t 5), none, none, []⟩,
     ⟨some 18, .lits 19 1 1 [.t 17], none, none, []⟩,
     ⟨some 19, .app 4 1 8 (.t 16) (.t 18), none, none, []⟩,
     ⟨some 3, .mv (.t 19), none, none, []⟩] false [0, 2, 3, 4] [3, 4]) (
  .reg [⟨some 20, .mv (.t 0), none, none, []⟩,
    ⟨some 21, .bin 0 .quo (.t 20) (.c (.int .i64 10)), none, none, []⟩,
    ⟨some 0, .mv (.t 21), none, none, []⟩] false [0, 2, 3, 4] [3, 4])
def T_ref01_Of_1 : PCode :=
  .block 1 (
   .seq (
    .reg [⟨some 10, .mv (.t 0), none, none, []⟩,
      ⟨some 11, .bin 0 .rem (.t 10) (.c (.int .i64 10)), none, none, []⟩,
      ⟨some 5, .mv (.t 11), none, none, []⟩] false [0, 2, 3, 4, 5] [3, 4]) (
   .seq (
    .seq (
     .reg [⟨some 12, .mv (.t 5), none, none, []⟩,
       ⟨some 13, .bin 0 .lss (.t 12) (.c (.int .i64 0)), none, none, []⟩] false [0, 2, 3, 4, 5, 13] [3, 4]) (
    .cond (.t 13) (
     .reg [⟨some 14, .mv (.t 5), none, none, []⟩,
       ⟨some 15, .un .neg (.t 14), none, none, []⟩,
       ⟨some 5, .mv (.t 15), none, none, []⟩] false [0, 2, 3, 4, 5] [3, 4]) (
     .skip))) T_ref01_Of_0))
def B_ref01_Of_2 : PCode :=
  .seq (
   .seq (
    .reg [⟨some 8, .mv (.t 0), none, none, []⟩,
      ⟨some 9, .bin 0 .neq (.t 8) (.c (.int .i64 0)), none, none, []⟩] false [0, 2, 3, 4, 9] [3, 4]) (
   .cond (.t 9) (
    .skip) (
    .exit 0))) T_ref01_Of_1
def T_ref01_Of_3 : PCode :=
  .seq (
   .reg [⟨some 22, .mv (.t 4), none, none, []⟩,
     ⟨some 23, .mv (.t 3), none, none, []⟩,
     ⟨some 24, .call (.c (.fn 64 [])) [.t 22, .t 23] none none, none, none, []⟩,
     ⟨none, .store 2 (.t 2) (.t 24), none, none, []⟩] false [2] [3]) (
  .ret)
def C_ref01_Of : PCode :=
  .seq (
   .reg [⟨some 2, .alloc 3 [.bool false, .nil0] [], none, none, []⟩] false [0, 2] [3]) (
  .seq (
   .reg [⟨some 3, .nils 4 1, none, none, []⟩] false [0, 2, 3] [3, 4]) (
  .seq (
   .reg [⟨some 6, .mv (.t 0), none, none, []⟩,
     ⟨some 7, .bin 0 .lss (.t 6) (.c (.int .i64 0)), none, none, []⟩,
     ⟨some 4, .mv (.t 7), none, none, []⟩] false [0, 2, 3, 4] [3, 4]) (
  .seq (
   .block 0 (
    .loop B_ref01_Of_2)) T_ref01_Of_3)))
def D_ref01_Of : PFunc := ⟨1, [.cell 2 2 true], false, C_ref01_Of⟩
abbrev F_ref01_Of : Nat := 37

/-- (gimbal/lin.Mat).swept -/
def T_lin_Mat_swept_0 : PCode :=
  .block 3 (
   .reg [⟨some 40, .mv (.t 10), none, none, []⟩,
     ⟨some 41, .bin 0 .add (.t 40) (.c (.int .i64 1)), none, none, []⟩,
     ⟨some 10, .mv (.t 41), none, none, []⟩] false [4, 5, 7, 8, 9, 10, 21, 22] [5, 8, 9, 20])
def B_lin_Mat_swept_1 : PCode :=
  .seq (
   .seq (
    .reg [⟨some 26, .mv (.t 10), none, none, []⟩,
      ⟨some 27, .load 1 false (.t 7), none, none, []⟩,
      ⟨some 28, .bin 0 .lss (.t 26) (.t 27), none, none, []⟩,
      ⟨some 29, .mv (.t 28), none, none, []⟩,
      ⟨some 30, .mv (.t 4), (some (29, true)), none, []⟩,
      ⟨some 31, .mv (.t 10), (some (29, true)), none, []⟩,
      ⟨some 32, .idx 1 (.t 30) (.t 31), (some (29, true)), none, []⟩,
      ⟨some 33, .load 1 false (.t 32), (some (29, true)), none, []⟩,
      ⟨some 34, .mv (.t 9), (some (29, true)), none, []⟩,
      ⟨some 35, .idx 2 (.t 33) (.t 34), (some (29, true)), none, []⟩,
      ⟨some 36, .load 2 true (.t 35), (some (29, true)), none, []⟩,
      ⟨some 37, .call (.c (.fn 12 [])) [.t 36] none none, (some (29, true)), none, []⟩,
      ⟨some 38, .bin 0 .eql (.t 37) (.c (.int .i64 0)), (some (29, true)), none, []⟩,
      ⟨some 39, .pick (.t 29) (.t 38) (.c (.bool false)), none, none, []⟩] false [4, 5, 7, 8, 9, 10, 21, 22, 39] [5, 8, 9, 20]) (
   .cond (.t 39) (
    .skip) (
    .exit 2))) T_lin_Mat_swept_0
def T_lin_Mat_swept_2 : PCode :=
  .seq (
   .block 7 (
    .seq (
     .reg [⟨some 92, .mv (.t 90), none, none, []⟩,
       ⟨some 14, .mv (.t 92), none, none, []⟩] false [4, 5, 7, 8, 9, 11, 12, 13, 14, 21, 22, 71, 72, 89, 90] [5, 8, 9, 12, 14, 20]) (
    .reg [⟨some 94, .mv (.t 4), none, none, []⟩,
      ⟨some 95, .mv (.t 12), none, none, []⟩,
      ⟨some 96, .idx 1 (.t 94) (.t 95), none, none, []⟩,
      ⟨some 97, .load 1 false (.t 96), none, none, []⟩,
      ⟨some 98, .mv (.t 14), none, none, []⟩,
      ⟨some 99, .load 2 true (.t 11), none, none, []⟩,
      ⟨some 100, .mv (.t 4), none, none, []⟩,
      ⟨some 101, .mv (.t 12), none, none, []⟩,
      ⟨some 102, .idx 1 (.t 100) (.t 101), none, none, []⟩,
      ⟨some 103, .load 1 false (.t 102), none, none, []⟩,
      ⟨some 104, .mv (.t 14), none, none, []⟩,
      ⟨some 105, .idx 2 (.t 103) (.t 104), none, none, []⟩,
      ⟨some 106, .load 2 true (.t 105), none, none, []⟩,
      ⟨some 107, .call (.c (.fn 15 [])) [.t 99, .t 106] none none, none, none, []⟩,
      ⟨some 108, .load 2 true (.t 13), none, none, []⟩,
      ⟨some 109, .mv (.t 4), none, none, []⟩,
      ⟨some 110, .mv (.t 9), none, none, []⟩,
      ⟨some 111, .idx 1 (.t 109) (.t 110), none, none, []⟩,
      ⟨some 112, .load 1 false (.t 111), none, none, []⟩,
      ⟨some 113, .mv (.t 14), none, none, []⟩,
      ⟨some 114, .idx 2 (.t 112) (.t 113), none, none, []⟩,
      ⟨some 115, .load 2 true (.t 114), none, none, []⟩,
      ⟨some 116, .call (.c (.fn 15 [])) [.t 108, .t 115] none none, none, none, []⟩,
      ⟨some 117, .call (.c (.fn 46 [])) [.t 107, .t 116] none none, none, none, []⟩,
      ⟨some 118, .load 2 true (.t 8), none, none, []⟩,
      ⟨some 119, .call (.c (.fn 68 [])) [.t 117, .t 118] none none, none, none, []⟩,
      ⟨some 93, .mv (.t 119), none, none, []⟩,
      ⟨some 120, .ext (.t 93) 0, none, none, []⟩,
      ⟨some 121, .ext (.t 93) 1, none, none, []⟩,
      ⟨some 122, .ext (.t 93) 2, none, none, []⟩,
      ⟨some 123, .idx 2 (.t 97) (.t 98), none, none, []⟩,
      ⟨none, .store 2 (.t 123) (.t 120), none, none, []⟩] true [4, 5, 7, 8, 9, 11, 12, 13, 21, 22, 71, 72, 89, 90] [5, 8, 9, 12, 14, 20]))) (
  .reg [⟨some 124, .bin 0 .add (.t 90) (.c (.int .i64 1)), none, none, []⟩,
    ⟨some 90, .mv (.t 124), none, none, []⟩] false [4, 5, 7, 8, 9, 11, 12, 13, 21, 22, 71, 72, 89, 90] [5, 8, 9, 12, 14, 20])
def B_lin_Mat_swept_3 : PCode :=
  .seq (
   .reg [⟨some 91, .bin 0 .lss (.t 90) (.t 89), none, none, []⟩] false [4, 5, 7, 8, 9, 11, 12, 13, 21, 22, 71, 72, 89, 90, 91] [5, 8, 9, 12, 14, 20]) (
  .seq (
   .cond (.t 91) (
    .skip) (
    .exit 6)) T_lin_Mat_swept_2)
def T_lin_Mat_swept_4 : PCode :=
  .seq (
   .reg [⟨some 78, .mv (.t 4), none, none, []⟩,
     ⟨some 79, .mv (.t 12), none, none, []⟩,
     ⟨some 80, .idx 1 (.t 78) (.t 79), none, none, []⟩,
     ⟨some 81, .load 1 false (.t 80), none, none, []⟩,
     ⟨some 82, .mv (.t 9), none, none, []⟩,
     ⟨some 83, .idx 2 (.t 81) (.t 82), none, none, []⟩,
     ⟨some 84, .load 2 true (.t 83), none, none, []⟩,
     ⟨some 13, .alloc 14 [.bool false, .nil0] [], none, none, []⟩,
     ⟨none, .store 2 (.t 13) (.t 84), none, none, []⟩] false [4, 5, 7, 8, 9, 11, 12, 13, 21, 22, 71, 72] [5, 8, 9, 12, 14, 20]) (
  .seq (
   .reg [⟨some 85, .mv (.t 4), none, none, []⟩,
     ⟨some 86, .mv (.t 12), none, none, []⟩,
     ⟨some 87, .idx 1 (.t 85) (.t 86), none, none, []⟩,
     ⟨some 88, .load 1 false (.t 87), none, none, []⟩,
     ⟨some 89, .len false (.t 88), none, none, []⟩,
     ⟨some 90, .mv (.c (.int .i64 0)), none, none, []⟩] false [4, 5, 7, 8, 9, 11, 12, 13, 21, 22, 71, 72, 89, 90] [5, 8, 9, 12, 14, 20]) (
  .block 6 (
   .loop B_lin_Mat_swept_3)))
def T_lin_Mat_swept_5 : PCode :=
  .reg [⟨some 125, .bin 0 .add (.t 72) (.c (.int .i64 1)), none, none, []⟩,
    ⟨some 72, .mv (.t 125), none, none, []⟩] false [4, 5, 7, 8, 9, 11, 21, 22, 71, 72] [5, 8, 9, 12, 20]
def T_lin_Mat_swept_6 : PCode :=
  .seq (
   .block 5 (
    .seq (
     .reg [⟨some 74, .mv (.t 72), none, none, []⟩,
       ⟨some 12, .mv (.t 74), none, none, []⟩] false [4, 5, 7, 8, 9, 11, 12, 21, 22, 71, 72] [5, 8, 9, 12, 20]) (
    .seq (
     .seq (
      .reg [⟨some 75, .mv (.t 12), none, none, []⟩,
        ⟨some 76, .mv (.t 9), none, none, []⟩,
        ⟨some 77, .bin 0 .eql (.t 75) (.t 76), none, none, []⟩] false [4, 5, 7, 8, 9, 11, 12, 21, 22, 71, 72, 77] [5, 8, 9, 12, 20]) (
     .cond (.t 77) (
      .exit 5) (
      .skip))) T_lin_Mat_swept_4))) T_lin_Mat_swept_5
def B_lin_Mat_swept_7 : PCode :=
  .seq (
   .reg [⟨some 73, .bin 0 .lss (.t 72) (.t 71), none, none, []⟩] false [4, 5, 7, 8, 9, 11, 21, 22, 71, 72, 73] [5, 8, 9, 12, 20]) (
  .seq (
   .cond (.t 73) (
    .skip) (
    .exit 4)) T_lin_Mat_swept_6)
def T_lin_Mat_swept_8 : PCode :=
  .reg [⟨some 126, .load 2 true (.t 11), none, none, []⟩,
    ⟨none, .store 2 (.t 8) (.t 126), none, none, []⟩] false [4, 5, 7, 8, 21, 22] [5, 8, 9, 20]
def T_lin_Mat_swept_9 : PCode :=
  .seq (
   .reg [⟨some 64, .mv (.t 4), none, none, []⟩,
     ⟨some 65, .mv (.t 9), none, none, []⟩,
     ⟨some 66, .idx 1 (.t 64) (.t 65), none, none, []⟩,
     ⟨some 67, .load 1 false (.t 66), none, none, []⟩,
     ⟨some 68, .mv (.t 9), none, none, []⟩,
     ⟨some 69, .idx 2 (.t 67) (.t 68), none, none, []⟩,
     ⟨some 70, .load 2 true (.t 69), none, none, []⟩,
     ⟨some 11, .alloc 12 [.bool false, .nil0] [], none, none, []⟩,
     ⟨none, .store 2 (.t 11) (.t 70), none, none, []⟩] false [4, 5, 7, 8, 9, 11, 21, 22] [5, 8, 9, 12, 20]) (
  .seq (
   .seq (
    .reg [⟨some 71, .load 1 false (.t 7), none, none, []⟩,
      ⟨some 72, .mv (.c (.int .i64 0)), none, none, []⟩] false [4, 5, 7, 8, 9, 11, 21, 22, 71, 72] [5, 8, 9, 12, 20]) (
   .block 4 (
    .loop B_lin_Mat_swept_7))) T_lin_Mat_swept_8)
def T_lin_Mat_swept_10 : PCode :=
  .seq (
   .seq (
    .reg [⟨some 45, .mv (.t 10), none, none, []⟩,
      ⟨some 46, .mv (.t 9), none, none, []⟩,
      ⟨some 47, .bin 0 .neq (.t 45) (.t 46), none, none, []⟩] false [4, 5, 7, 8, 9, 10, 21, 22, 47] [5, 8, 9, 20]) (
   .cond (.t 47) (
    .reg [⟨some 48, .mv (.t 4), none, none, []⟩,
      ⟨some 49, .mv (.t 10), none, none, []⟩,
      ⟨some 50, .mv (.t 4), none, none, []⟩,
      ⟨some 51, .mv (.t 9), none, none, []⟩,
      ⟨some 52, .mv (.t 4), none, none, []⟩,
      ⟨some 53, .mv (.t 9), none, none, []⟩,
      ⟨some 54, .idx 1 (.t 52) (.t 53), none, none, []⟩,
      ⟨some 55, .load 1 false (.t 54), none, none, []⟩,
      ⟨some 56, .mv (.t 4), none, none, []⟩,
      ⟨some 57, .mv (.t 10), none, none, []⟩,
      ⟨some 58, .idx 1 (.t 56) (.t 57), none, none, []⟩,
      ⟨some 59, .load 1 false (.t 58), none, none, []⟩,
      ⟨some 60, .mv (.t 5), none, none, []⟩,
      ⟨some 61, .un .not (.t 60), none, none, []⟩,
      ⟨some 62, .idx 1 (.t 48) (.t 49), none, none, []⟩,
      ⟨none, .storeRow (.t 62) (.t 55), none, none, []⟩,
      ⟨some 63, .idx 1 (.t 50) (.t 51), none, none, []⟩,
      ⟨none, .storeRow (.t 63) (.t 59), none, none, []⟩,
      ⟨some 5, .mv (.t 61), none, none, []⟩] true [4, 5, 7, 8, 9, 21, 22] [5, 8, 9, 20]) (
    .skip))) T_lin_Mat_swept_9
def T_lin_Mat_swept_11 : PCode :=
  .seq (
   .seq (
    .reg [⟨some 42, .mv (.t 10), none, none, []⟩,
      ⟨some 43, .load 1 false (.t 7), none, none, []⟩,
      ⟨some 44, .bin 0 .eql (.t 42) (.t 43), none, none, []⟩] false [4, 5, 7, 8, 9, 10, 21, 22, 44] [5, 8, 9, 20]) (
   .cond (.t 44) (
    .seq (
     .reg [⟨some 4, .nils 5 1, none, none, []⟩,
       ⟨some 5, .mv (.c (.bool false)), none, none, []⟩,
       ⟨some 6, .mv (.c (.bool false)), none, none, []⟩] false [4, 5, 6] [5, 20]) (
    .ret)) (
    .skip))) T_lin_Mat_swept_10
def T_lin_Mat_swept_12 : PCode :=
  .reg [⟨some 127, .bin 0 .add (.t 22) (.c (.int .i64 1)), none, none, []⟩,
    ⟨some 22, .mv (.t 127), none, none, []⟩] false [4, 5, 7, 8, 21, 22] [5, 8, 9, 20]
def T_lin_Mat_swept_13 : PCode :=
  .seq (
   .block 1 (
    .seq (
     .reg [⟨some 24, .mv (.t 22), none, none, []⟩,
       ⟨some 9, .mv (.t 24), none, none, []⟩] false [4, 5, 7, 8, 9, 21, 22] [5, 8, 9, 20]) (
    .seq (
     .reg [⟨some 25, .mv (.t 9), none, none, []⟩,
       ⟨some 10, .mv (.t 25), none, none, []⟩] false [4, 5, 7, 8, 9, 10, 21, 22] [5, 8, 9, 20]) (
    .seq (
     .block 2 (
      .loop B_lin_Mat_swept_1)) T_lin_Mat_swept_11)))) T_lin_Mat_swept_12
def B_lin_Mat_swept_14 : PCode :=
  .seq (
   .reg [⟨some 23, .bin 0 .lss (.t 22) (.t 21), none, none, []⟩] false [4, 5, 7, 8, 21, 22, 23] [5, 8, 9, 20]) (
  .seq (
   .cond (.t 23) (
    .skip) (
    .exit 0)) T_lin_Mat_swept_13)
def T_lin_Mat_swept_15 : PCode :=
  .seq (
   .reg [⟨some 128, .mv (.t 4), none, none, []⟩,
     ⟨some 129, .mv (.t 5), none, none, []⟩,
     ⟨some 4, .mv (.t 128), none, none, []⟩,
     ⟨some 5, .mv (.t 129), none, none, []⟩,
     ⟨some 6, .mv (.c (.bool true)), none, none, []⟩] false [4, 5, 6] [5, 20]) (
  .ret)
def C_lin_Mat_swept : PCode :=
  .seq (
   .reg [⟨some 2, .box 3 (.t 0), none, none, []⟩,
     ⟨some 3, .box 4 (.t 1), none, none, []⟩,
     ⟨some 4, .nils 5 1, none, none, []⟩,
     ⟨some 5, .mv (.c (.bool false)), none, none, []⟩,
     ⟨some 6, .mv (.c (.bool false)), none, none, []⟩] false [2, 3, 5] [3, 4]) (
  .seq (
   .reg [⟨some 15, .load 1 false (.t 2), none, none, []⟩,
     ⟨some 16, .len false (.t 15), none, none, []⟩,
     ⟨some 7, .alloc 8 [.int .i64 0] [], none, none, []⟩,
     ⟨none, .store 1 (.t 7) (.t 16), none, none, []⟩] false [2, 3, 5, 7] [3, 4, 8]) (
  .seq (
   .reg [⟨some 17, .load 1 false (.t 7), none, none, []⟩,
     ⟨some 18, .clos 66 [.t 7, .t 2, .t 3], none, none, []⟩,
     ⟨some 19, .call (.c (.fn 65 [])) [.t 17, .t 18] none (some 20), none, none, []⟩,
     ⟨some 4, .mv (.t 19), none, none, []⟩] false [4, 5, 7] [5, 8, 20]) (
  .seq (
   .reg [⟨some 20, .call (.c (.fn 32 [])) [.c (.int .i64 1)] none none, none, none, []⟩,
     ⟨some 8, .alloc 9 [.bool false, .nil0] [], none, none, []⟩,
     ⟨none, .store 2 (.t 8) (.t 20), none, none, []⟩] false [4, 5, 7, 8] [5, 8, 9, 20]) (
  .seq (
   .seq (
    .reg [⟨some 21, .load 1 false (.t 7), none, none, []⟩,
      ⟨some 22, .mv (.c (.int .i64 0)), none, none, []⟩] false [4, 5, 7, 8, 21, 22] [5, 8, 9, 20]) (
   .block 0 (
    .loop B_lin_Mat_swept_14))) T_lin_Mat_swept_15))))
def D_lin_Mat_swept : PFunc := ⟨2, [.tmp 4, .tmp 5, .tmp 6], false, C_lin_Mat_swept⟩
abbrev F_lin_Mat_swept : Nat := 38

/-- gimbal/lin.list[gimbal/long.Int] -/
def T_lin_list_long_Int_0 : PCode :=
  .seq (
   .block 1 (
    .seq (
     .reg [⟨some 13, .mv (.t 11), none, none, []⟩,
       ⟨some 6, .mv (.t 13), none, none, []⟩] false [1, 5, 6, 10, 11] [9]) (
    .reg [⟨some 14, .mv (.t 5), none, none, []⟩,
      ⟨some 15, .mv (.t 6), none, none, []⟩,
      ⟨some 16, .mv (.t 1), none, none, []⟩,
      ⟨some 17, .mv (.t 6), none, none, []⟩,
      ⟨some 18, .call (.t 16) [.t 17] none none, none, none, []⟩,
      ⟨some 19, .idx 2 (.t 14) (.t 15), none, none, []⟩,
      ⟨none, .store 2 (.t 19) (.t 18), none, none, []⟩] false [1, 5, 10, 11] [9]))) (
  .reg [⟨some 20, .bin 0 .add (.t 11) (.c (.int .i64 1)), none, none, []⟩,
    ⟨some 11, .mv (.t 20), none, none, []⟩] false [1, 5, 10, 11] [9])
def B_lin_list_long_Int_1 : PCode :=
  .seq (
   .reg [⟨some 12, .bin 0 .lss (.t 11) (.t 10), none, none, []⟩] false [1, 5, 10, 11, 12] [9]) (
  .seq (
   .cond (.t 12) (
    .skip) (
    .exit 0)) T_lin_list_long_Int_0)
def T_lin_list_long_Int_2 : PCode :=
  .seq (
   .reg [⟨some 21, .mv (.t 5), none, none, []⟩,
     ⟨some 4, .mv (.t 21), none, none, []⟩] false [4] [5, 9]) (
  .ret)
def C_lin_list_long_Int : PCode :=
  .seq (
   .reg [⟨some 4, .nils 5 2, none, none, []⟩] false [0, 1] []) (
  .seq (
   .reg [⟨some 7, .mv (.t 0), none, none, []⟩,
     ⟨some 8, .make 9 [.bool false, .nil0] 32 (.t 7) (.t 7), none, none, []⟩,
     ⟨some 5, .mv (.t 8), none, none, []⟩] false [1, 5] [9]) (
  .seq (
   .seq (
    .reg [⟨some 9, .mv (.t 5), none, none, []⟩,
      ⟨some 10, .len false (.t 9), none, none, []⟩,
      ⟨some 11, .mv (.c (.int .i64 0)), none, none, []⟩] false [1, 5, 10, 11] [9]) (
   .block 0 (
    .loop B_lin_list_long_Int_1))) T_lin_list_long_Int_2))
def D_lin_list_long_Int : PFunc := ⟨2, [.tmp 4], true, C_lin_list_long_Int⟩
abbrev F_lin_list_long_Int : Nat := 39

/-- (gimbal/lin.Mat).Solve$1 -/
def C_lin_Mat_Solve_1 : PCode :=
  .seq (
   .reg [⟨some 5, .alloc 6 [.bool false, .nil0] [], none, none, []⟩] false [0, 1, 2, 3, 5] [6]) (
  .seq (
   .reg [⟨some 6, .load 1 false (.t 1), none, none, []⟩,
     ⟨some 7, .mv (.t 0), none, none, []⟩,
     ⟨some 8, .idx 1 (.t 6) (.t 7), none, none, []⟩,
     ⟨some 9, .load 1 false (.t 8), none, none, []⟩,
     ⟨some 10, .load 1 false (.t 2), none, none, []⟩,
     ⟨some 11, .len false (.t 10), none, none, []⟩,
     ⟨some 12, .idx 2 (.t 9) (.t 11), none, none, []⟩,
     ⟨some 13, .load 2 true (.t 12), none, none, []⟩,
     ⟨some 14, .load 1 false (.t 3), none, none, []⟩,
     ⟨some 15, .call (.c (.fn 41 [])) [.t 13, .t 14] none none, none, none, []⟩,
     ⟨none, .store 2 (.t 5) (.t 15), none, none, []⟩] true [5] [6]) (
  .ret))
def D_lin_Mat_Solve_1 : PFunc := ⟨4, [.cell 5 2 true], false, C_lin_Mat_Solve_1⟩
abbrev F_lin_Mat_Solve_1 : Nat := 40

/-- gimbal/lin.turned -/
def T_lin_turned_0 : PCode :=
  .seq (
   .reg [⟨some 8, .load 2 true (.t 2), none, none, []⟩,
     ⟨none, .store 2 (.t 4) (.t 8), none, none, []⟩] false [4] [5]) (
  .ret)
def C_lin_turned : PCode :=
  .seq (
   .reg [⟨some 2, .box 3 (.t 0), none, none, []⟩,
     ⟨some 4, .alloc 5 [.bool false, .nil0] [], none, none, []⟩] false [1, 2, 4] [3, 5]) (
  .seq (
   .seq (
    .reg [⟨some 5, .mv (.t 1), none, none, []⟩] false [2, 4, 5] [3, 5]) (
   .cond (.t 5) (
    .seq (
     .reg [⟨some 6, .load 2 true (.t 2), none, none, []⟩,
       ⟨some 7, .call (.c (.fn 33 [])) [.t 6] none none, none, none, []⟩,
       ⟨none, .store 2 (.t 4) (.t 7), none, none, []⟩] false [4] [5]) (
    .ret)) (
    .skip))) T_lin_turned_0)
def D_lin_turned : PFunc := ⟨2, [.cell 4 2 true], false, C_lin_turned⟩
abbrev F_lin_turned : Nat := 41

/-- gimbal/lin.zeros -/
def C_lin_zeros : PCode :=
  .seq (
   .reg [⟨some 2, .nils 3 2, none, none, []⟩] false [0] []) (
  .seq (
   .reg [⟨some 3, .mv (.t 0), none, none, []⟩,
     ⟨some 4, .make 5 [.bool false, .nil0] 32 (.t 3) (.t 3), none, none, []⟩,
     ⟨some 2, .mv (.t 4), none, none, []⟩] false [2] [3, 5]) (
  .ret))
def D_lin_zeros : PFunc := ⟨1, [.tmp 2], true, C_lin_zeros⟩
abbrev F_lin_zeros : Nat := 42

/-- (gimbal/lin.Mat).Apply$1 -/
def C_lin_Mat_Apply_1 : PCode :=
  .seq (
   .reg [⟨some 3, .box 4 (.t 0), none, none, []⟩,
     ⟨some 4, .alloc 5 [.bool false, .nil0] [], none, none, []⟩] false [1, 2, 3, 4] [4, 5]) (
  .seq (
   .reg [⟨some 5, .load 1 false (.t 1), none, none, []⟩,
     ⟨some 6, .len false (.t 5), none, none, []⟩,
     ⟨some 7, .clos 45 [.t 1, .t 3, .t 2], none, none, []⟩,
     ⟨some 8, .call (.c (.fn 44 [])) [.t 6, .t 7] none none, none, none, []⟩,
     ⟨none, .store 2 (.t 4) (.t 8), none, none, []⟩] false [4] [5]) (
  .ret))
def D_lin_Mat_Apply_1 : PFunc := ⟨3, [.cell 4 2 true], false, C_lin_Mat_Apply_1⟩
abbrev F_lin_Mat_Apply_1 : Nat := 43

/-- gimbal/lin.sum -/
def T_lin_sum_0 : PCode :=
  .seq (
   .block 1 (
    .seq (
     .reg [⟨some 12, .mv (.t 10), none, none, []⟩,
       ⟨some 6, .mv (.t 12), none, none, []⟩] false [1, 4, 5, 6, 9, 10] [5, 6]) (
    .seq (
     .reg [⟨some 14, .mv (.t 1), none, none, []⟩,
       ⟨some 15, .mv (.t 6), none, none, []⟩,
       ⟨some 16, .call (.t 14) [.t 15] none none, none, none, []⟩,
       ⟨some 13, .mv (.t 16), none, none, []⟩,
       ⟨some 17, .ext (.t 13) 0, none, none, []⟩,
       ⟨some 18, .ext (.t 13) 1, none, none, []⟩,
       ⟨some 7, .alloc 8 [.bool false, .nil0] [], none, none, []⟩,
       ⟨some 8, .alloc 9 [.bool false, .nil0] [], none, none, []⟩,
       ⟨none, .store 2 (.t 7) (.t 17), none, none, []⟩,
       ⟨none, .store 2 (.t 8) (.t 18), none, none, []⟩] false [1, 4, 5, 7, 8, 9, 10] [5, 6, 8, 9]) (
    .reg [⟨some 19, .load 2 true (.t 5), none, none, []⟩,
      ⟨some 20, .load 2 true (.t 7), none, none, []⟩,
      ⟨some 21, .load 2 true (.t 8), none, none, []⟩,
      ⟨some 22, .call (.c (.fn 15 [])) [.t 20, .t 21] none none, none, none, []⟩,
      ⟨some 23, .call (.c (.fn 31 [])) [.t 19, .t 22] none none, none, none, []⟩,
      ⟨none, .store 2 (.t 5) (.t 23), none, none, []⟩] true [1, 4, 5, 9, 10] [5, 6])))) (
  .reg [⟨some 24, .bin 0 .add (.t 10) (.c (.int .i64 1)), none, none, []⟩,
    ⟨some 10, .mv (.t 24), none, none, []⟩] false [1, 4, 5, 9, 10] [5, 6])
def B_lin_sum_1 : PCode :=
  .seq (
   .reg [⟨some 11, .bin 0 .lss (.t 10) (.t 9), none, none, []⟩] false [1, 4, 5, 9, 10, 11] [5, 6]) (
  .seq (
   .cond (.t 11) (
    .skip) (
    .exit 0)) T_lin_sum_0)
def T_lin_sum_2 : PCode :=
  .seq (
   .reg [⟨some 25, .load 2 true (.t 5), none, none, []⟩,
     ⟨none, .store 2 (.t 4) (.t 25), none, none, []⟩] false [4] [5]) (
  .ret)
def C_lin_sum : PCode :=
  .seq (
   .reg [⟨some 4, .alloc 5 [.bool false, .nil0] [], none, none, []⟩] false [0, 1, 4] [5]) (
  .seq (
   .reg [⟨some 5, .alloc 6 [.bool false, .nil0] [], none, none, []⟩] false [0, 1, 4, 5] [5, 6]) (
  .seq (
   .seq (
    .reg [⟨some 9, .mv (.t 0), none, none, []⟩,
      ⟨some 10, .mv (.c (.int .i64 0)), none, none, []⟩] false [1, 4, 5, 9, 10] [5, 6]) (
   .block 0 (
    .loop B_lin_sum_1))) T_lin_sum_2))
def D_lin_sum : PFunc := ⟨2, [.cell 4 2 true], false, C_lin_sum⟩
abbrev F_lin_sum : Nat := 44

/-- (gimbal/lin.Mat).Apply$1$1 -/
def C_lin_Mat_Apply_1_1 : PCode :=
  .seq (
   .reg [⟨some 5, .alloc 6 [.bool false, .nil0] [], none, none, []⟩,
     ⟨some 6, .alloc 7 [.bool false, .nil0] [], none, none, []⟩] false [0, 1, 2, 3, 5, 6] [6, 7]) (
  .seq (
   .reg [⟨some 7, .load 1 false (.t 1), none, none, []⟩,
     ⟨some 8, .load 1 false (.t 2), none, none, []⟩,
     ⟨some 9, .idx 1 (.t 7) (.t 8), none, none, []⟩,
     ⟨some 10, .load 1 false (.t 9), none, none, []⟩,
     ⟨some 11, .mv (.t 0), none, none, []⟩,
     ⟨some 12, .idx 2 (.t 10) (.t 11), none, none, []⟩,
     ⟨some 13, .load 2 true (.t 12), none, none, []⟩,
     ⟨some 14, .load 1 false (.t 3), none, none, [6]⟩,
     ⟨some 15, .mv (.t 0), none, none, []⟩,
     ⟨some 16, .idx 2 (.t 14) (.t 15), none, none, []⟩,
     ⟨some 17, .load 2 true (.t 16), none, none, [6]⟩,
     ⟨none, .store 2 (.t 5) (.t 13), none, some 6, []⟩,
     ⟨none, .store 2 (.t 6) (.t 17), none, none, []⟩] true [5, 6] [6, 7]) (
  .ret))
def D_lin_Mat_Apply_1_1 : PFunc := ⟨4, [.cell 5 2 true, .cell 6 2 true], false, C_lin_Mat_Apply_1_1⟩
abbrev F_lin_Mat_Apply_1_1 : Nat := 45

/-- (gimbal/long.Int).Sub -/
def C_long_Int_Sub : PCode :=
  .seq (
   .reg [⟨some 2, .box 3 (.t 0), none, none, []⟩,
     ⟨some 3, .box 4 (.t 1), none, none, []⟩,
     ⟨some 4, .alloc 5 [.bool false, .nil0] [], none, none, []⟩] false [2, 3, 4] [3, 4, 5]) (
  .seq (
   .reg [⟨some 5, .load 2 true (.t 2), none, none, []⟩,
     ⟨some 6, .load 2 true (.t 3), none, none, []⟩,
     ⟨some 7, .call (.c (.fn 33 [])) [.t 6] none none, none, none, []⟩,
     ⟨some 8, .call (.c (.fn 31 [])) [.t 5, .t 7] none none, none, none, []⟩,
     ⟨none, .store 2 (.t 4) (.t 8), none, none, []⟩] true [4] [5]) (
  .ret))
def D_long_Int_Sub : PFunc := ⟨2, [.cell 4 2 true], false, C_long_Int_Sub⟩
abbrev F_long_Int_Sub : Nat := 46

/-- gimbal/long.made -/
def T_long_made_0 : PCode :=
  .block 1 (
   .reg [⟨some 18, .mv (.t 5), none, none, []⟩,
     ⟨some 19, .bin 0 .sub (.t 18) (.c (.int .i64 1)), none, none, []⟩,
     ⟨some 5, .mv (.t 19), none, none, []⟩] false [0, 1, 4, 5] [5])
def B_long_made_1 : PCode :=
  .seq (
   .seq (
    .reg [⟨some 8, .mv (.t 5), none, none, []⟩,
      ⟨some 9, .bin 0 .gtr (.t 8) (.c (.int .i64 0)), none, none, []⟩,
      ⟨some 10, .mv (.t 9), none, none, []⟩,
      ⟨some 11, .mv (.t 1), (some (10, true)), none, []⟩,
      ⟨some 12, .mv (.t 5), (some (10, true)), none, []⟩,
      ⟨some 13, .bin 0 .sub (.t 12) (.c (.int .i64 1)), (some (10, true)), none, []⟩,
      ⟨some 14, .idx 1 (.t 11) (.t 13), (some (10, true)), none, []⟩,
      ⟨some 15, .load 1 false (.t 14), (some (10, true)), none, []⟩,
      ⟨some 16, .bin 0 .eql (.t 15) (.c (.int .u32 0)), (some (10, true)), none, []⟩,
      ⟨some 17, .pick (.t 10) (.t 16) (.c (.bool false)), none, none, []⟩] false [0, 1, 4, 5, 17] [5]) (
   .cond (.t 17) (
    .skip) (
    .exit 0))) T_long_made_0
def T_long_made_2 : PCode :=
  .seq (
   .reg [⟨some 20, .mv (.t 0), none, none, []⟩,
     ⟨some 21, .mv (.t 20), none, none, []⟩,
     ⟨some 22, .mv (.t 5), (some (21, true)), none, []⟩,
     ⟨some 23, .bin 0 .gtr (.t 22) (.c (.int .i64 0)), (some (21, true)), none, []⟩,
     ⟨some 24, .pick (.t 21) (.t 23) (.c (.bool false)), none, none, []⟩,
     ⟨some 25, .mv (.t 1), none, none, []⟩,
     ⟨some 26, .mv (.t 5), none, none, []⟩,
     ⟨some 27, .mv (.t 5), none, none, []⟩,
     ⟨some 28, .slice false 1 (.t 25) none (some (.t 26)) (some (.t 27)), none, none, []⟩,
     ⟨some 29, .build [.bool false, .nil0] [(0, 1, .t 24), (1, 1, .t 28)], none, none, []⟩,
     ⟨none, .store 2 (.t 4) (.t 29), none, none, []⟩] false [4] [5]) (
  .ret)
def C_long_made : PCode :=
  .seq (
   .reg [⟨some 4, .alloc 5 [.bool false, .nil0] [], none, none, []⟩] false [0, 1, 4] [5]) (
  .seq (
   .reg [⟨some 6, .mv (.t 1), none, none, []⟩,
     ⟨some 7, .len false (.t 6), none, none, []⟩,
     ⟨some 5, .mv (.t 7), none, none, []⟩] false [0, 1, 4, 5] [5]) (
  .seq (
   .block 0 (
    .loop B_long_made_1)) T_long_made_2))
def D_long_made : PFunc := ⟨2, [.cell 4 2 true], false, C_long_made⟩
abbrev F_long_made : Nat := 47

/-- gimbal/lin.made -/
def C_lin_made : PCode :=
  .seq (
   .reg [⟨some 2, .box 3 (.t 0), none, none, []⟩,
     ⟨some 3, .box 4 (.t 1), none, none, []⟩,
     ⟨some 4, .nils 5 1, none, none, []⟩] false [2, 3] [3, 4]) (
  .seq (
   .reg [⟨some 5, .load 1 false (.t 2), none, none, []⟩,
     ⟨some 6, .clos 69 [.t 2, .t 3], none, none, []⟩,
     ⟨some 7, .call (.c (.fn 65 [])) [.t 5, .t 6] none none, none, none, []⟩,
     ⟨some 4, .mv (.t 7), none, none, []⟩] false [4] [5]) (
  .ret))
def D_lin_made : PFunc := ⟨2, [.tmp 4], false, C_lin_made⟩
abbrev F_lin_made : Nat := 48

/-- (gimbal/lin.Mat).Mul$1 -/
def C_lin_Mat_Mul_1 : PCode :=
  .seq (
   .reg [⟨some 4, .box 5 (.t 0), none, none, []⟩,
     ⟨some 5, .box 6 (.t 1), none, none, []⟩,
     ⟨some 6, .alloc 7 [.bool false, .nil0] [], none, none, []⟩] false [2, 3, 4, 5, 6] [5, 6, 7]) (
  .seq (
   .reg [⟨some 7, .load 1 false (.t 2), none, none, []⟩,
     ⟨some 8, .len false (.t 7), none, none, []⟩,
     ⟨some 9, .clos 50 [.t 2, .t 4, .t 3, .t 5], none, none, []⟩,
     ⟨some 10, .call (.c (.fn 44 [])) [.t 8, .t 9] none none, none, none, []⟩,
     ⟨none, .store 2 (.t 6) (.t 10), none, none, []⟩] false [6] [7]) (
  .ret))
def D_lin_Mat_Mul_1 : PFunc := ⟨4, [.cell 6 2 true], false, C_lin_Mat_Mul_1⟩
abbrev F_lin_Mat_Mul_1 : Nat := 49

/-- (gimbal/lin.Mat).Mul$1$1 -/
def C_lin_Mat_Mul_1_1 : PCode :=
  .seq (
   .reg [⟨some 6, .alloc 7 [.bool false, .nil0] [], none, none, []⟩,
     ⟨some 7, .alloc 8 [.bool false, .nil0] [], none, none, []⟩] false [0, 1, 2, 3, 4, 6, 7] [7, 8]) (
  .seq (
   .reg [⟨some 8, .load 1 false (.t 1), none, none, []⟩,
     ⟨some 9, .load 1 false (.t 2), none, none, []⟩,
     ⟨some 10, .idx 1 (.t 8) (.t 9), none, none, []⟩,
     ⟨some 11, .load 1 false (.t 10), none, none, []⟩,
     ⟨some 12, .mv (.t 0), none, none, []⟩,
     ⟨some 13, .idx 2 (.t 11) (.t 12), none, none, []⟩,
     ⟨some 14, .load 2 true (.t 13), none, none, []⟩,
     ⟨some 15, .load 1 false (.t 3), none, none, [7]⟩,
     ⟨some 16, .mv (.t 0), none, none, []⟩,
     ⟨some 17, .idx 1 (.t 15) (.t 16), none, none, []⟩,
     ⟨some 18, .load 1 false (.t 17), none, none, [7]⟩,
     ⟨some 19, .load 1 false (.t 4), none, none, [7]⟩,
     ⟨some 20, .idx 2 (.t 18) (.t 19), none, none, []⟩,
     ⟨some 21, .load 2 true (.t 20), none, none, [7]⟩,
     ⟨none, .store 2 (.t 6) (.t 14), none, some 7, []⟩,
     ⟨none, .store 2 (.t 7) (.t 21), none, none, []⟩] true [6, 7] [7, 8]) (
  .ret))
def D_lin_Mat_Mul_1_1 : PFunc := ⟨5, [.cell 6 2 true, .cell 7 2 true], false, C_lin_Mat_Mul_1_1⟩
abbrev F_lin_Mat_Mul_1_1 : Nat := 50

/-- (gimbal/lin.Mat).Turned$1 -/
def C_lin_Mat_Turned_1 : PCode :=
  .seq (
   .reg [⟨some 5, .alloc 6 [.bool false, .nil0] [], none, none, []⟩] false [0, 1, 2, 5] [6]) (
  .seq (
   .reg [⟨some 6, .load 1 false (.t 2), none, none, []⟩,
     ⟨some 7, .mv (.t 1), none, none, []⟩,
     ⟨some 8, .idx 1 (.t 6) (.t 7), none, none, []⟩,
     ⟨some 9, .load 1 false (.t 8), none, none, []⟩,
     ⟨some 10, .mv (.t 0), none, none, []⟩,
     ⟨some 11, .idx 2 (.t 9) (.t 10), none, none, []⟩,
     ⟨some 12, .load 2 true (.t 11), none, none, []⟩,
     ⟨none, .store 2 (.t 5) (.t 12), none, none, []⟩] false [5] [6]) (
  .ret))
def D_lin_Mat_Turned_1 : PFunc := ⟨3, [.cell 5 2 true], false, C_lin_Mat_Turned_1⟩
abbrev F_lin_Mat_Turned_1 : Nat := 51

/-- (gimbal/lin.Mat).Quad$1 -/
def C_lin_Mat_Quad_1 : PCode :=
  .seq (
   .reg [⟨some 4, .alloc 5 [.bool false, .nil0] [], none, none, []⟩,
     ⟨some 5, .alloc 6 [.bool false, .nil0] [], none, none, []⟩] false [0, 1, 2, 4, 5] [5, 6]) (
  .seq (
   .reg [⟨some 6, .load 1 false (.t 1), none, none, []⟩,
     ⟨some 7, .mv (.t 0), none, none, []⟩,
     ⟨some 8, .idx 2 (.t 6) (.t 7), none, none, []⟩,
     ⟨some 9, .load 2 true (.t 8), none, none, []⟩,
     ⟨some 10, .load 1 false (.t 2), none, none, [5]⟩,
     ⟨some 11, .mv (.t 0), none, none, []⟩,
     ⟨some 12, .idx 2 (.t 10) (.t 11), none, none, []⟩,
     ⟨some 13, .load 2 true (.t 12), none, none, [5]⟩,
     ⟨none, .store 2 (.t 4) (.t 9), none, some 5, []⟩,
     ⟨none, .store 2 (.t 5) (.t 13), none, none, []⟩] true [4, 5] [5, 6]) (
  .ret))
def D_lin_Mat_Quad_1 : PFunc := ⟨3, [.cell 4 2 true, .cell 5 2 true], false, C_lin_Mat_Quad_1⟩
abbrev F_lin_Mat_Quad_1 : Nat := 52

/-- gimbal/long.by -/
def T_long_by_0 : PCode :=
  .seq (
   .block 1 (
    .seq (
     .reg [⟨some 19, .mv (.t 7), none, none, []⟩,
       ⟨some 20, .bin 0 .shl (.t 19) (.c (.int .u64 32)), none, none, []⟩,
       ⟨some 21, .mv (.t 0), none, none, []⟩,
       ⟨some 22, .mv (.t 8), none, none, []⟩,
       ⟨some 23, .idx 1 (.t 21) (.t 22), none, none, []⟩,
       ⟨some 24, .load 1 false (.t 23), none, none, []⟩,
       ⟨some 25, .conv .u64 (.t 24), none, none, []⟩,
       ⟨some 26, .bin 0 .or (.t 20) (.t 25), none, none, []⟩,
       ⟨some 7, .mv (.t 26), none, none, []⟩] false [0, 1, 6, 7, 8] [12]) (
    .seq (
     .reg [⟨some 27, .mv (.t 6), none, none, []⟩,
       ⟨some 28, .mv (.t 8), none, none, []⟩,
       ⟨some 29, .mv (.t 7), none, none, []⟩,
       ⟨some 30, .mv (.t 1), none, none, []⟩,
       ⟨some 31, .conv .u64 (.t 30), none, none, []⟩,
       ⟨some 32, .bin 0 .quo (.t 29) (.t 31), none, none, []⟩,
       ⟨some 33, .conv .u32 (.t 32), none, none, []⟩,
       ⟨some 34, .idx 1 (.t 27) (.t 28), none, none, []⟩,
       ⟨none, .store 1 (.t 34) (.t 33), none, none, []⟩] false [0, 1, 6, 7, 8] [12]) (
    .reg [⟨some 35, .mv (.t 7), none, none, []⟩,
      ⟨some 36, .mv (.t 1), none, none, []⟩,
      ⟨some 37, .conv .u64 (.t 36), none, none, []⟩,
      ⟨some 38, .bin 0 .rem (.t 35) (.t 37), none, none, []⟩,
      ⟨some 7, .mv (.t 38), none, none, []⟩] false [0, 1, 6, 7, 8] [12])))) (
  .reg [⟨some 17, .mv (.t 8), none, none, []⟩,
    ⟨some 18, .bin 0 .sub (.t 17) (.c (.int .i64 1)), none, none, []⟩,
    ⟨some 8, .mv (.t 18), none, none, []⟩] false [0, 1, 6, 7, 8] [12])
def B_long_by_1 : PCode :=
  .seq (
   .seq (
    .reg [⟨some 15, .mv (.t 8), none, none, []⟩,
      ⟨some 16, .bin 0 .geq (.t 15) (.c (.int .i64 0)), none, none, []⟩] false [0, 1, 6, 7, 8, 16] [12]) (
   .cond (.t 16) (
    .skip) (
    .exit 0))) T_long_by_0
def T_long_by_2 : PCode :=
  .seq (
   .reg [⟨some 39, .mv (.t 6), none, none, []⟩,
     ⟨some 40, .mv (.t 7), none, none, []⟩,
     ⟨some 41, .conv .u32 (.t 40), none, none, []⟩,
     ⟨some 4, .mv (.t 39), none, none, []⟩,
     ⟨some 5, .mv (.t 41), none, none, []⟩] false [4, 5] [5, 12]) (
  .ret)
def C_long_by : PCode :=
  .seq (
   .reg [⟨some 4, .nils 5 1, none, none, []⟩,
     ⟨some 5, .mv (.c (.int .u32 0)), none, none, []⟩] false [0, 1] []) (
  .seq (
   .reg [⟨some 9, .mv (.t 0), none, none, []⟩,
     ⟨some 10, .len false (.t 9), none, none, []⟩,
     ⟨some 11, .make 12 [.int .u32 0] 4 (.t 10) (.t 10), none, none, []⟩,
     ⟨some 6, .mv (.t 11), none, none, []⟩] false [0, 1, 6] [12]) (
  .seq (
   .reg [⟨some 7, .mv (.c (.int .u64 0)), none, none, []⟩] false [0, 1, 6, 7] [12]) (
  .seq (
   .seq (
    .reg [⟨some 12, .mv (.t 0), none, none, []⟩,
      ⟨some 13, .len false (.t 12), none, none, []⟩,
      ⟨some 14, .bin 0 .sub (.t 13) (.c (.int .i64 1)), none, none, []⟩,
      ⟨some 8, .mv (.t 14), none, none, []⟩] false [0, 1, 6, 7, 8] [12]) (
   .block 0 (
    .loop B_long_by_1))) T_long_by_2)))
def D_long_by : PFunc := ⟨2, [.tmp 4, .tmp 5], false, C_long_by⟩
abbrev F_long_by : Nat := 53

/-- slices.Reverse[[]byte,byte] -/
def T_slices_Reverse_Sbyte_byte_0 : PCode :=
  .seq (
   .block 1 (
    .reg [⟨some 14, .mv (.t 0), none, none, []⟩,
      ⟨some 15, .mv (.t 2), none, none, []⟩,
      ⟨some 16, .mv (.t 0), none, none, []⟩,
      ⟨some 17, .mv (.t 3), none, none, []⟩,
      ⟨some 18, .mv (.t 0), none, none, []⟩,
      ⟨some 19, .mv (.t 3), none, none, []⟩,
      ⟨some 20, .idx 1 (.t 18) (.t 19), none, none, []⟩,
      ⟨some 21, .load 1 false (.t 20), none, none, []⟩,
      ⟨some 22, .mv (.t 0), none, none, []⟩,
      ⟨some 23, .mv (.t 2), none, none, []⟩,
      ⟨some 24, .idx 1 (.t 22) (.t 23), none, none, []⟩,
      ⟨some 25, .load 1 false (.t 24), none, none, []⟩,
      ⟨some 26, .idx 1 (.t 14) (.t 15), none, none, []⟩,
      ⟨none, .store 1 (.t 26) (.t 21), none, none, []⟩,
      ⟨some 27, .idx 1 (.t 16) (.t 17), none, none, []⟩,
      ⟨none, .store 1 (.t 27) (.t 25), none, none, []⟩] true [0, 2, 3] [0])) (
  .reg [⟨some 10, .mv (.t 2), none, none, []⟩,
    ⟨some 11, .bin 0 .add (.t 10) (.c (.int .i64 1)), none, none, []⟩,
    ⟨some 12, .mv (.t 3), none, none, []⟩,
    ⟨some 13, .bin 0 .sub (.t 12) (.c (.int .i64 1)), none, none, []⟩,
    ⟨some 2, .mv (.t 11), none, none, []⟩,
    ⟨some 3, .mv (.t 13), none, none, []⟩] false [0, 2, 3] [0])
def B_slices_Reverse_Sbyte_byte_1 : PCode :=
  .seq (
   .seq (
    .reg [⟨some 7, .mv (.t 2), none, none, []⟩,
      ⟨some 8, .mv (.t 3), none, none, []⟩,
      ⟨some 9, .bin 0 .lss (.t 7) (.t 8), none, none, []⟩] false [0, 2, 3, 9] [0]) (
   .cond (.t 9) (
    .skip) (
    .exit 0))) T_slices_Reverse_Sbyte_byte_0
def C_slices_Reverse_Sbyte_byte : PCode :=
  .seq (
   .reg [⟨some 4, .mv (.t 0), none, none, []⟩,
     ⟨some 5, .len false (.t 4), none, none, []⟩,
     ⟨some 6, .bin 0 .sub (.t 5) (.c (.int .i64 1)), none, none, []⟩,
     ⟨some 2, .mv (.c (.int .i64 0)), none, none, []⟩,
     ⟨some 3, .mv (.t 6), none, none, []⟩] false [0, 2, 3] [0]) (
  .block 0 (
   .loop B_slices_Reverse_Sbyte_byte_1))
def D_slices_Reverse_Sbyte_byte : PFunc := ⟨1, [], false, C_slices_Reverse_Sbyte_byte⟩
abbrev F_slices_Reverse_Sbyte_byte : Nat := 54

/-- (gimbal/lin.Mat).Definite$1 -/
def C_lin_Mat_Definite_1 : PCode :=
  .seq (
   .reg [⟨some 5, .alloc 6 [.bool false, .nil0] [], none, none, []⟩] false [0, 1, 2, 5] [6]) (
  .seq (
   .reg [⟨some 6, .load 1 false (.t 2), none, none, []⟩,
     ⟨some 7, .mv (.t 0), none, none, []⟩,
     ⟨some 8, .idx 1 (.t 6) (.t 7), none, none, []⟩,
     ⟨some 9, .load 1 false (.t 8), none, none, []⟩,
     ⟨some 10, .mv (.t 1), none, none, []⟩,
     ⟨some 11, .idx 2 (.t 9) (.t 10), none, none, []⟩,
     ⟨some 12, .load 2 true (.t 11), none, none, []⟩,
     ⟨none, .store 2 (.t 5) (.t 12), none, none, []⟩] false [5] [6]) (
  .ret))
def D_lin_Mat_Definite_1 : PFunc := ⟨3, [.cell 5 2 true], false, C_lin_Mat_Definite_1⟩
abbrev F_lin_Mat_Definite_1 : Nat := 55

/-- gimbal/gimbalref07.Dot -/
def T_ref07_Dot_0 : PCode :=
  .seq (
   .block 1 (
    .reg [⟨some 14, .load 2 true (.t 5), none, none, []⟩,
      ⟨some 15, .mv (.t 0), none, none, []⟩,
      ⟨some 16, .mv (.t 6), none, none, []⟩,
      ⟨some 17, .idx 2 (.t 15) (.t 16), none, none, []⟩,
      ⟨some 18, .load 2 true (.t 17), none, none, []⟩,
      ⟨some 19, .mv (.t 1), none, none, []⟩,
      ⟨some 20, .mv (.t 6), none, none, []⟩,
      ⟨some 21, .idx 2 (.t 19) (.t 20), none, none, []⟩,
      ⟨some 22, .load 2 true (.t 21), none, none, []⟩,
      ⟨some 23, .call (.c (.fn 72 [])) [.t 18, .t 22] none none, none, none, []⟩,
      ⟨some 24, .call (.c (.fn 71 [])) [.t 14, .t 23] none none, none, none, []⟩,
      ⟨none, .store 2 (.t 5) (.t 24), none, none, []⟩] true [0, 1, 4, 5, 6] [5, 6])) (
  .reg [⟨some 12, .mv (.t 6), none, none, []⟩,
    ⟨some 13, .bin 0 .add (.t 12) (.c (.int .i64 1)), none, none, []⟩,
    ⟨some 6, .mv (.t 13), none, none, []⟩] false [0, 1, 4, 5, 6] [5, 6])
def B_ref07_Dot_1 : PCode :=
  .seq (
   .seq (
    .reg [⟨some 8, .mv (.t 6), none, none, []⟩,
      ⟨some 9, .mv (.t 0), none, none, []⟩,
      ⟨some 10, .len false (.t 9), none, none, []⟩,
      ⟨some 11, .bin 0 .lss (.t 8) (.t 10), none, none, []⟩] false [0, 1, 4, 5, 6, 11] [5, 6]) (
   .cond (.t 11) (
    .skip) (
    .exit 0))) T_ref07_Dot_0
def T_ref07_Dot_2 : PCode :=
  .seq (
   .reg [⟨some 25, .load 2 true (.t 5), none, none, []⟩,
     ⟨none, .store 2 (.t 4) (.t 25), none, none, []⟩] false [4] [5]) (
  .ret)
def C_ref07_Dot : PCode :=
  .seq (
   .reg [⟨some 4, .alloc 5 [.bool false, .nil0] [], none, none, []⟩] false [0, 1, 4] [5]) (
  .seq (
   .reg [⟨some 7, .call (.c (.fn 37 [])) [.c (.int .i64 0)] none none, none, none, []⟩,
     ⟨some 5, .alloc 6 [.bool false, .nil0] [], none, none, []⟩,
     ⟨none, .store 2 (.t 5) (.t 7), none, none, []⟩] false [0, 1, 4, 5] [5, 6]) (
  .seq (
   .seq (
    .reg [⟨some 6, .mv (.c (.int .i64 0)), none, none, []⟩] false [0, 1, 4, 5, 6] [5, 6]) (
   .block 0 (
    .loop B_ref07_Dot_1))) T_ref07_Dot_2))
def D_ref07_Dot : PFunc := ⟨2, [.cell 4 2 true], false, C_ref07_Dot⟩
abbrev F_ref07_Dot : Nat := 56

/-- (gimbal/gimbalref01.Int).Cmp -/
def T_ref01_Int_Cmp_0 : PCode :=
  .seq (
   .reg [⟨some 4, .mv (.c (.int .i64 1)), none, none, []⟩] false [4] []) (
  .ret)
def T_ref01_Int_Cmp_1 : PCode :=
  .seq (
   .reg [⟨some 22, .mv (.t 5), none, none, []⟩,
     ⟨some 4, .mv (.t 22), none, none, []⟩] false [4] []) (
  .ret)
def T_ref01_Int_Cmp_2 : PCode :=
  .seq (
   .reg [⟨some 13, .field 1 1 (.t 2), none, none, []⟩,
     ⟨some 14, .load 1 false (.t 13), none, none, []⟩,
     ⟨some 15, .field 1 1 (.t 3), none, none, []⟩,
     ⟨some 16, .load 1 false (.t 15), none, none, []⟩,
     ⟨some 17, .call (.c (.fn 73 [])) [.t 14, .t 16] none none, none, none, []⟩,
     ⟨some 5, .mv (.t 17), none, none, []⟩] false [2, 5] [3]) (
  .seq (
   .seq (
    .reg [⟨some 18, .field 0 1 (.t 2), none, none, []⟩,
      ⟨some 19, .load 1 false (.t 18), none, none, []⟩] false [5, 19] []) (
   .cond (.t 19) (
    .seq (
     .reg [⟨some 20, .mv (.t 5), none, none, []⟩,
       ⟨some 21, .un .neg (.t 20), none, none, []⟩,
       ⟨some 4, .mv (.t 21), none, none, []⟩] false [4] []) (
    .ret)) (
    .skip))) T_ref01_Int_Cmp_1)
def C_ref01_Int_Cmp : PCode :=
  .seq (
   .reg [⟨some 2, .box 3 (.t 0), none, none, []⟩,
     ⟨some 3, .box 4 (.t 1), none, none, []⟩,
     ⟨some 4, .mv (.c (.int .i64 0)), none, none, []⟩] false [2, 3] [3, 4]) (
  .seq (
   .seq (
    .reg [⟨some 6, .field 0 1 (.t 2), none, none, []⟩,
      ⟨some 7, .load 1 false (.t 6), none, none, []⟩,
      ⟨some 8, .field 0 1 (.t 3), none, none, []⟩,
      ⟨some 9, .load 1 false (.t 8), none, none, []⟩,
      ⟨some 10, .bin 1 .neq (.t 7) (.t 9), none, none, []⟩] false [2, 3, 10] [3, 4]) (
   .cond (.t 10) (
    .seq (
     .seq (
      .reg [⟨some 11, .field 0 1 (.t 2), none, none, []⟩,
        ⟨some 12, .load 1 false (.t 11), none, none, []⟩] false [12] []) (
     .cond (.t 12) (
      .seq (
       .reg [⟨some 4, .mv (.c (.int .i64 (-1))), none, none, []⟩] false [4] []) (
      .ret)) (
      .skip))) T_ref01_Int_Cmp_0) (
    .skip))) T_ref01_Int_Cmp_2)
def D_ref01_Int_Cmp : PFunc := ⟨2, [.tmp 4], false, C_ref01_Int_Cmp⟩
abbrev F_ref01_Int_Cmp : Nat := 57

/-- (gimbal/gimbalref07.Mat).Det -/
def T_ref07_Mat_Det_0 : PCode :=
  .reg [⟨some 33, .load 2 true (.t 3), none, none, []⟩,
    ⟨some 34, .load 2 true (.t 5), none, none, []⟩,
    ⟨some 35, .call (.c (.fn 71 [])) [.t 33, .t 34] none none, none, none, []⟩,
    ⟨none, .store 2 (.t 3) (.t 35), none, none, []⟩] false [0, 2, 3, 4] [3, 4]
def T_ref07_Mat_Det_1 : PCode :=
  .reg [⟨some 15, .mv (.t 4), none, none, []⟩,
    ⟨some 16, .bin 0 .add (.t 15) (.c (.int .i64 1)), none, none, []⟩,
    ⟨some 4, .mv (.t 16), none, none, []⟩] false [0, 2, 3, 4] [3, 4]
def T_ref07_Mat_Det_2 : PCode :=
  .seq (
   .block 1 (
    .seq (
     .reg [⟨some 17, .mv (.t 0), none, none, []⟩,
       ⟨some 18, .idx 1 (.t 17) (.c (.int .i64 0)), none, none, []⟩,
       ⟨some 19, .load 1 false (.t 18), none, none, [6]⟩,
       ⟨some 20, .mv (.t 4), none, none, []⟩,
       ⟨some 21, .idx 2 (.t 19) (.t 20), none, none, []⟩,
       ⟨some 22, .load 2 true (.t 21), none, none, [6]⟩,
       ⟨some 23, .mv (.t 0), none, none, []⟩,
       ⟨some 24, .mv (.t 4), none, none, []⟩,
       ⟨some 25, .call (.c (.fn 74 [])) [.t 23, .t 24] none none, none, none, [6]⟩,
       ⟨some 26, .call (.c (.fn 58 [])) [.t 25] none none, none, none, [6]⟩,
       ⟨some 27, .call (.c (.fn 72 [])) [.t 22, .t 26] none none, none, none, [6]⟩,
       ⟨some 5, .alloc 6 [.bool false, .nil0] [], none, none, []⟩,
       ⟨none, .store 2 (.t 5) (.t 27), none, none, []⟩] true [0, 2, 3, 4, 5] [3, 4, 6]) (
    .seq (
     .seq (
      .reg [⟨some 28, .mv (.t 4), none, none, []⟩,
        ⟨some 29, .bin 0 .rem (.t 28) (.c (.int .i64 2)), none, none, []⟩,
        ⟨some 30, .bin 0 .eql (.t 29) (.c (.int .i64 1)), none, none, []⟩] false [0, 2, 3, 4, 5, 30] [3, 4, 6]) (
     .cond (.t 30) (
      .reg [⟨some 31, .load 2 true (.t 5), none, none, []⟩,
        ⟨some 32, .call (.c (.fn 75 [])) [.t 31] none none, none, none, []⟩,
        ⟨none, .store 2 (.t 5) (.t 32), none, none, []⟩] false [0, 2, 3, 4, 5] [3, 4, 6]) (
      .skip))) T_ref07_Mat_Det_0))) T_ref07_Mat_Det_1
def B_ref07_Mat_Det_3 : PCode :=
  .seq (
   .seq (
    .reg [⟨some 11, .mv (.t 4), none, none, []⟩,
      ⟨some 12, .mv (.t 0), none, none, []⟩,
      ⟨some 13, .len false (.t 12), none, none, []⟩,
      ⟨some 14, .bin 0 .lss (.t 11) (.t 13), none, none, []⟩] false [0, 2, 3, 4, 14] [3, 4]) (
   .cond (.t 14) (
    .skip) (
    .exit 0))) T_ref07_Mat_Det_2
def T_ref07_Mat_Det_4 : PCode :=
  .seq (
   .reg [⟨some 36, .load 2 true (.t 3), none, none, []⟩,
     ⟨none, .store 2 (.t 2) (.t 36), none, none, []⟩] false [2] [3]) (
  .ret)
def T_ref07_Mat_Det_5 : PCode :=
  .seq (
   .reg [⟨some 10, .call (.c (.fn 37 [])) [.c (.int .i64 0)] none none, none, none, []⟩,
     ⟨some 3, .alloc 4 [.bool false, .nil0] [], none, none, []⟩,
     ⟨none, .store 2 (.t 3) (.t 10), none, none, []⟩] false [0, 2, 3] [3, 4]) (
  .seq (
   .seq (
    .reg [⟨some 4, .mv (.c (.int .i64 0)), none, none, []⟩] false [0, 2, 3, 4] [3, 4]) (
   .block 0 (
    .loop B_ref07_Mat_Det_3))) T_ref07_Mat_Det_4)
def C_ref07_Mat_Det : PCode :=
  .seq (
   .reg [⟨some 2, .alloc 3 [.bool false, .nil0] [], none, none, []⟩] false [0, 2] [3]) (
  .seq (
   .seq (
    .reg [⟨some 6, .mv (.t 0), none, none, []⟩,
      ⟨some 7, .len false (.t 6), none, none, []⟩,
      ⟨some 8, .bin 0 .eql (.t 7) (.c (.int .i64 0)), none, none, []⟩] false [0, 2, 8] [3]) (
   .cond (.t 8) (
    .seq (
     .reg [⟨some 9, .call (.c (.fn 37 [])) [.c (.int .i64 1)] none none, none, none, []⟩,
       ⟨none, .store 2 (.t 2) (.t 9), none, none, []⟩] false [2] [3]) (
    .ret)) (
    .skip))) T_ref07_Mat_Det_5)
def D_ref07_Mat_Det : PFunc := ⟨1, [.cell 2 2 true], false, C_ref07_Mat_Det⟩
abbrev F_ref07_Mat_Det : Nat := 58

/-- (gimbal/gimbalref01.Int).Sign -/
def T_ref01_Int_Sign_0 : PCode :=
  .seq (
   .reg [⟨some 2, .mv (.c (.int .i64 1)), none, none, []⟩] false [2] []) (
  .ret)
def T_ref01_Int_Sign_1 : PCode :=
  .seq (
   .seq (
    .reg [⟨some 7, .field 0 1 (.t 1), none, none, []⟩,
      ⟨some 8, .load 1 false (.t 7), none, none, []⟩] false [8] []) (
   .cond (.t 8) (
    .seq (
     .reg [⟨some 2, .mv (.c (.int .i64 (-1))), none, none, []⟩] false [2] []) (
    .ret)) (
    .skip))) T_ref01_Int_Sign_0
def C_ref01_Int_Sign : PCode :=
  .seq (
   .reg [⟨some 1, .box 2 (.t 0), none, none, []⟩,
     ⟨some 2, .mv (.c (.int .i64 0)), none, none, []⟩] false [1] [2]) (
  .seq (
   .seq (
    .reg [⟨some 3, .field 1 1 (.t 1), none, none, []⟩,
      ⟨some 4, .load 1 false (.t 3), none, none, []⟩,
      ⟨some 5, .len false (.t 4), none, none, []⟩,
      ⟨some 6, .bin 0 .eql (.t 5) (.c (.int .i64 0)), none, none, []⟩] false [1, 6] [2]) (
   .cond (.t 6) (
    .seq (
     .reg [⟨some 2, .mv (.c (.int .i64 0)), none, none, []⟩] false [2] []) (
    .ret)) (
    .skip))) T_ref01_Int_Sign_1)
def D_ref01_Int_Sign : PFunc := ⟨1, [.tmp 2], false, C_ref01_Int_Sign⟩
abbrev F_ref01_Int_Sign : Nat := 59

/-- gimbal/long.plus -/
def T_long_plus_0 : PCode :=
  .seq (
   .reg [⟨some 45, .mv (.t 5), none, none, []⟩,
     ⟨some 46, .mv (.t 7), none, none, []⟩,
     ⟨some 47, .mv (.t 6), none, none, []⟩,
     ⟨some 48, .conv .u32 (.t 47), none, none, []⟩,
     ⟨some 49, .idx 1 (.t 45) (.t 46), none, none, []⟩,
     ⟨none, .store 1 (.t 49) (.t 48), none, none, []⟩] false [1, 5, 6, 23, 24] [19]) (
  .reg [⟨some 50, .mv (.t 6), none, none, []⟩,
    ⟨some 51, .bin 0 .shr (.t 50) (.c (.int .u64 32)), none, none, []⟩,
    ⟨some 6, .mv (.t 51), none, none, []⟩] false [1, 5, 6, 23, 24] [19])
def T_long_plus_1 : PCode :=
  .reg [⟨some 52, .bin 0 .add (.t 24) (.c (.int .i64 1)), none, none, []⟩,
    ⟨some 24, .mv (.t 52), none, none, []⟩] false [1, 5, 6, 23, 24] [19]
def T_long_plus_2 : PCode :=
  .seq (
   .block 1 (
    .seq (
     .reg [⟨some 26, .mv (.t 24), none, none, []⟩,
       ⟨some 7, .mv (.t 26), none, none, []⟩] false [1, 5, 6, 7, 23, 24] [19]) (
    .seq (
     .reg [⟨some 27, .mv (.t 6), none, none, []⟩,
       ⟨some 28, .mv (.t 5), none, none, []⟩,
       ⟨some 29, .mv (.t 7), none, none, []⟩,
       ⟨some 30, .idx 1 (.t 28) (.t 29), none, none, []⟩,
       ⟨some 31, .load 1 false (.t 30), none, none, []⟩,
       ⟨some 32, .conv .u64 (.t 31), none, none, []⟩,
       ⟨some 33, .bin 0 .add (.t 27) (.t 32), none, none, []⟩,
       ⟨some 6, .mv (.t 33), none, none, []⟩] false [1, 5, 6, 7, 23, 24] [19]) (
    .seq (
     .seq (
      .reg [⟨some 34, .mv (.t 7), none, none, []⟩,
        ⟨some 35, .mv (.t 1), none, none, []⟩,
        ⟨some 36, .len false (.t 35), none, none, []⟩,
        ⟨some 37, .bin 0 .lss (.t 34) (.t 36), none, none, []⟩] false [1, 5, 6, 7, 23, 24, 37] [19]) (
     .cond (.t 37) (
      .reg [⟨some 38, .mv (.t 6), none, none, []⟩,
        ⟨some 39, .mv (.t 1), none, none, []⟩,
        ⟨some 40, .mv (.t 7), none, none, []⟩,
        ⟨some 41, .idx 1 (.t 39) (.t 40), none, none, []⟩,
        ⟨some 42, .load 1 false (.t 41), none, none, []⟩,
        ⟨some 43, .conv .u64 (.t 42), none, none, []⟩,
        ⟨some 44, .bin 0 .add (.t 38) (.t 43), none, none, []⟩,
        ⟨some 6, .mv (.t 44), none, none, []⟩] false [1, 5, 6, 7, 23, 24] [19]) (
      .skip))) T_long_plus_0)))) T_long_plus_1
def B_long_plus_3 : PCode :=
  .seq (
   .reg [⟨some 25, .bin 0 .lss (.t 24) (.t 23), none, none, []⟩] false [1, 5, 6, 23, 24, 25] [19]) (
  .seq (
   .cond (.t 25) (
    .skip) (
    .exit 0)) T_long_plus_2)
def T_long_plus_4 : PCode :=
  .seq (
   .reg [⟨some 53, .mv (.t 5), none, none, []⟩,
     ⟨some 4, .mv (.t 53), none, none, []⟩] false [4] [5, 19]) (
  .ret)
def T_long_plus_5 : PCode :=
  .seq (
   .reg [⟨some 15, .mv (.t 0), none, none, []⟩,
     ⟨some 16, .len false (.t 15), none, none, []⟩,
     ⟨some 17, .bin 0 .add (.t 16) (.c (.int .i64 1)), none, none, []⟩,
     ⟨some 18, .make 19 [.int .u32 0] 4 (.t 17) (.t 17), none, none, []⟩,
     ⟨some 5, .mv (.t 18), none, none, []⟩] false [0, 1, 5] [19]) (
  .seq (
   .reg [⟨some 19, .mv (.t 5), none, none, []⟩,
     ⟨some 20, .mv (.t 0), none, none, []⟩,
     ⟨some 21, .copy 1 (.t 19) (.t 20), none, none, []⟩] false [1, 5] [19]) (
  .seq (
   .reg [⟨some 6, .mv (.c (.int .u64 0)), none, none, []⟩] false [1, 5, 6] [19]) (
  .seq (
   .seq (
    .reg [⟨some 22, .mv (.t 5), none, none, []⟩,
      ⟨some 23, .len false (.t 22), none, none, []⟩,
      ⟨some 24, .mv (.c (.int .i64 0)), none, none, []⟩] false [1, 5, 6, 23, 24] [19]) (
   .block 0 (
    .loop B_long_plus_3))) T_long_plus_4)))
def C_long_plus : PCode :=
  .seq (
   .reg [⟨some 4, .nils 5 1, none, none, []⟩] false [0, 1] []) (
  .seq (
   .seq (
    .reg [⟨some 8, .mv (.t 0), none, none, []⟩,
      ⟨some 9, .len false (.t 8), none, none, []⟩,
      ⟨some 10, .mv (.t 1), none, none, []⟩,
      ⟨some 11, .len false (.t 10), none, none, []⟩,
      ⟨some 12, .bin 0 .lss (.t 9) (.t 11), none, none, []⟩] false [0, 1, 12] []) (
   .cond (.t 12) (
    .reg [⟨some 13, .mv (.t 1), none, none, []⟩,
      ⟨some 14, .mv (.t 0), none, none, []⟩,
      ⟨some 0, .mv (.t 13), none, none, []⟩,
      ⟨some 1, .mv (.t 14), none, none, []⟩] false [0, 1] []) (
    .skip))) T_long_plus_5)
def D_long_plus : PFunc := ⟨2, [.tmp 4], false, C_long_plus⟩
abbrev F_long_plus : Nat := 60

/-- gimbal/long.cmp -/
def T_long_cmp_0 : PCode :=
  .seq (
   .reg [⟨some 4, .mv (.c (.int .i64 1)), none, none, []⟩] false [4] []) (
  .ret)
def T_long_cmp_1 : PCode :=
  .reg [⟨some 21, .mv (.t 5), none, none, []⟩,
    ⟨some 22, .bin 0 .sub (.t 21) (.c (.int .i64 1)), none, none, []⟩,
    ⟨some 5, .mv (.t 22), none, none, []⟩] false [0, 1, 5] []
def T_long_cmp_2 : PCode :=
  .seq (
   .block 1 (
    .block 2 (
     .seq (
      .reg [⟨some 24, .mv (.t 0), none, none, []⟩,
        ⟨some 25, .mv (.t 5), none, none, []⟩,
        ⟨some 26, .idx 1 (.t 24) (.t 25), none, none, []⟩,
        ⟨some 27, .load 1 false (.t 26), none, none, []⟩,
        ⟨some 28, .mv (.t 1), none, none, []⟩,
        ⟨some 29, .mv (.t 5), none, none, []⟩,
        ⟨some 30, .idx 1 (.t 28) (.t 29), none, none, []⟩,
        ⟨some 31, .load 1 false (.t 30), none, none, []⟩,
        ⟨some 32, .bin 0 .lss (.t 27) (.t 31), none, none, []⟩,
        ⟨some 23, .mv (.t 32), none, none, []⟩] true [0, 1, 5, 23] []) (
     .cond (.t 23) (
      .seq (
       .reg [⟨some 4, .mv (.c (.int .i64 (-1))), none, none, []⟩] false [4] []) (
      .ret)) (
      .seq (
       .reg [⟨some 34, .mv (.t 0), none, none, []⟩,
         ⟨some 35, .mv (.t 5), none, none, []⟩,
         ⟨some 36, .idx 1 (.t 34) (.t 35), none, none, []⟩,
         ⟨some 37, .load 1 false (.t 36), none, none, []⟩,
         ⟨some 38, .mv (.t 1), none, none, []⟩,
         ⟨some 39, .mv (.t 5), none, none, []⟩,
         ⟨some 40, .idx 1 (.t 38) (.t 39), none, none, []⟩,
         ⟨some 41, .load 1 false (.t 40), none, none, []⟩,
         ⟨some 42, .bin 0 .gtr (.t 37) (.t 41), none, none, []⟩,
         ⟨some 33, .mv (.t 42), none, none, []⟩] true [0, 1, 5, 33] []) (
      .cond (.t 33) (
       .seq (
        .reg [⟨some 4, .mv (.c (.int .i64 1)), none, none, []⟩] false [4] []) (
       .ret)) (
       .skip))))))) T_long_cmp_1
def B_long_cmp_3 : PCode :=
  .seq (
   .seq (
    .reg [⟨some 19, .mv (.t 5), none, none, []⟩,
      ⟨some 20, .bin 0 .geq (.t 19) (.c (.int .i64 0)), none, none, []⟩] false [0, 1, 5, 20] []) (
   .cond (.t 20) (
    .skip) (
    .exit 0))) T_long_cmp_2
def T_long_cmp_4 : PCode :=
  .seq (
   .reg [⟨some 4, .mv (.c (.int .i64 0)), none, none, []⟩] false [4] []) (
  .ret)
def T_long_cmp_5 : PCode :=
  .seq (
   .seq (
    .reg [⟨some 16, .mv (.t 0), none, none, []⟩,
      ⟨some 17, .len false (.t 16), none, none, []⟩,
      ⟨some 18, .bin 0 .sub (.t 17) (.c (.int .i64 1)), none, none, []⟩,
      ⟨some 5, .mv (.t 18), none, none, []⟩] false [0, 1, 5] []) (
   .block 0 (
    .loop B_long_cmp_3))) T_long_cmp_4
def C_long_cmp : PCode :=
  .seq (
   .reg [⟨some 4, .mv (.c (.int .i64 0)), none, none, []⟩] false [0, 1] []) (
  .seq (
   .seq (
    .reg [⟨some 6, .mv (.t 0), none, none, []⟩,
      ⟨some 7, .len false (.t 6), none, none, []⟩,
      ⟨some 8, .mv (.t 1), none, none, []⟩,
      ⟨some 9, .len false (.t 8), none, none, []⟩,
      ⟨some 10, .bin 0 .neq (.t 7) (.t 9), none, none, []⟩] false [0, 1, 10] []) (
   .cond (.t 10) (
    .seq (
     .seq (
      .reg [⟨some 11, .mv (.t 0), none, none, []⟩,
        ⟨some 12, .len false (.t 11), none, none, []⟩,
        ⟨some 13, .mv (.t 1), none, none, []⟩,
        ⟨some 14, .len false (.t 13), none, none, []⟩,
        ⟨some 15, .bin 0 .lss (.t 12) (.t 14), none, none, []⟩] false [15] []) (
     .cond (.t 15) (
      .seq (
       .reg [⟨some 4, .mv (.c (.int .i64 (-1))), none, none, []⟩] false [4] []) (
      .ret)) (
      .skip))) T_long_cmp_0) (
    .skip))) T_long_cmp_5)
def D_long_cmp : PFunc := ⟨2, [.tmp 4], false, C_long_cmp⟩
abbrev F_long_cmp : Nat := 61

/-- gimbal/long.less -/
def T_long_less_0 : PCode :=
  .seq (
   .reg [⟨some 34, .mv (.t 5), none, none, []⟩,
     ⟨some 35, .mv (.t 7), none, none, []⟩,
     ⟨some 36, .mv (.t 8), none, none, []⟩,
     ⟨some 37, .conv .u32 (.t 36), none, none, []⟩,
     ⟨some 38, .idx 1 (.t 34) (.t 35), none, none, []⟩,
     ⟨none, .store 1 (.t 38) (.t 37), none, none, []⟩] false [1, 5, 8, 12, 13] [0, 11]) (
  .reg [⟨some 39, .mv (.t 8), none, none, []⟩,
    ⟨some 40, .bin 0 .shr (.t 39) (.c (.int .u64 63)), none, none, []⟩,
    ⟨some 6, .mv (.t 40), none, none, []⟩] false [1, 5, 6, 12, 13] [0, 11])
def T_long_less_1 : PCode :=
  .reg [⟨some 41, .bin 0 .add (.t 13) (.c (.int .i64 1)), none, none, []⟩,
    ⟨some 13, .mv (.t 41), none, none, []⟩] false [1, 5, 6, 12, 13] [0, 11]
def T_long_less_2 : PCode :=
  .seq (
   .block 1 (
    .seq (
     .reg [⟨some 15, .mv (.t 13), none, none, []⟩,
       ⟨some 7, .mv (.t 15), none, none, []⟩] false [1, 5, 6, 7, 12, 13] [0, 11]) (
    .seq (
     .reg [⟨some 16, .mv (.t 5), none, none, []⟩,
       ⟨some 17, .mv (.t 7), none, none, []⟩,
       ⟨some 18, .idx 1 (.t 16) (.t 17), none, none, []⟩,
       ⟨some 19, .load 1 false (.t 18), none, none, []⟩,
       ⟨some 20, .conv .u64 (.t 19), none, none, []⟩,
       ⟨some 21, .mv (.t 6), none, none, []⟩,
       ⟨some 22, .bin 0 .sub (.t 20) (.t 21), none, none, []⟩,
       ⟨some 8, .mv (.t 22), none, none, []⟩] false [1, 5, 7, 8, 12, 13] [0, 11]) (
    .seq (
     .seq (
      .reg [⟨some 23, .mv (.t 7), none, none, []⟩,
        ⟨some 24, .mv (.t 1), none, none, []⟩,
        ⟨some 25, .len false (.t 24), none, none, []⟩,
        ⟨some 26, .bin 0 .lss (.t 23) (.t 25), none, none, []⟩] false [1, 5, 7, 8, 12, 13, 26] [0, 11]) (
     .cond (.t 26) (
      .reg [⟨some 27, .mv (.t 8), none, none, []⟩,
        ⟨some 28, .mv (.t 1), none, none, []⟩,
        ⟨some 29, .mv (.t 7), none, none, []⟩,
        ⟨some 30, .idx 1 (.t 28) (.t 29), none, none, []⟩,
        ⟨some 31, .load 1 false (.t 30), none, none, []⟩,
        ⟨some 32, .conv .u64 (.t 31), none, none, []⟩,
        ⟨some 33, .bin 0 .sub (.t 27) (.t 32), none, none, []⟩,
        ⟨some 8, .mv (.t 33), none, none, []⟩] false [1, 5, 7, 8, 12, 13] [0, 11]) (
      .skip))) T_long_less_0)))) T_long_less_1
def B_long_less_3 : PCode :=
  .seq (
   .reg [⟨some 14, .bin 0 .lss (.t 13) (.t 12), none, none, []⟩] false [1, 5, 6, 12, 13, 14] [0, 11]) (
  .seq (
   .cond (.t 14) (
    .skip) (
    .exit 0)) T_long_less_2)
def T_long_less_4 : PCode :=
  .seq (
   .reg [⟨some 42, .mv (.t 5), none, none, []⟩,
     ⟨some 4, .mv (.t 42), none, none, []⟩] false [4] [0, 5, 11]) (
  .ret)
def C_long_less : PCode :=
  .seq (
   .reg [⟨some 4, .nils 5 1, none, none, []⟩] false [0, 1] [0]) (
  .seq (
   .reg [⟨some 9, .mv (.t 0), none, none, []⟩,
     ⟨some 10, .call (.c (.fn 76 [])) [.t 9] (some 0) (some 11), none, none, []⟩,
     ⟨some 5, .mv (.t 10), none, none, []⟩] false [1, 5] [0, 11]) (
  .seq (
   .reg [⟨some 6, .mv (.c (.int .u64 0)), none, none, []⟩] false [1, 5, 6] [0, 11]) (
  .seq (
   .seq (
    .reg [⟨some 11, .mv (.t 5), none, none, []⟩,
      ⟨some 12, .len false (.t 11), none, none, []⟩,
      ⟨some 13, .mv (.c (.int .i64 0)), none, none, []⟩] false [1, 5, 6, 12, 13] [0, 11]) (
   .block 0 (
    .loop B_long_less_3))) T_long_less_4)))
def D_long_less : PFunc := ⟨2, [.tmp 4], false, C_long_less⟩
abbrev F_long_less : Nat := 62

/-- gimbal/lin.Of$1 -/
def C_lin_Of_1 : PCode :=
  .seq (
   .reg [⟨some 5, .alloc 6 [.bool false, .nil0] [], none, none, []⟩] false [0, 1, 2, 5] [6]) (
  .seq (
   .reg [⟨some 6, .load 1 false (.t 2), none, none, []⟩,
     ⟨some 7, .mv (.t 0), none, none, []⟩,
     ⟨some 8, .idx 1 (.t 6) (.t 7), none, none, []⟩,
     ⟨some 9, .load 1 false (.t 8), none, none, []⟩,
     ⟨some 10, .mv (.t 1), none, none, []⟩,
     ⟨some 11, .idx 1 (.t 9) (.t 10), none, none, []⟩,
     ⟨some 12, .load 1 false (.t 11), none, none, []⟩,
     ⟨some 13, .call (.c (.fn 32 [])) [.t 12] none none, none, none, []⟩,
     ⟨none, .store 2 (.t 5) (.t 13), none, none, []⟩] false [5] [6]) (
  .ret))
def D_lin_Of_1 : PFunc := ⟨3, [.cell 5 2 true], false, C_lin_Of_1⟩
abbrev F_lin_Of_1 : Nat := 63

/-- gimbal/gimbalref01.made -/
def T_ref01_made_0 : PCode :=
  .block 1 (
   .reg [⟨some 18, .mv (.t 5), none, none, []⟩,
     ⟨some 19, .bin 0 .sub (.t 18) (.c (.int .i64 1)), none, none, []⟩,
     ⟨some 5, .mv (.t 19), none, none, []⟩] false [0, 1, 4, 5] [5])
def B_ref01_made_1 : PCode :=
  .seq (
   .seq (
    .reg [⟨some 8, .mv (.t 5), none, none, []⟩,
      ⟨some 9, .bin 0 .gtr (.t 8) (.c (.int .i64 0)), none, none, []⟩,
      ⟨some 10, .mv (.t 9), none, none, []⟩,
      ⟨some 11, .mv (.t 1), (some (10, true)), none, []⟩,
      ⟨some 12, .mv (.t 5), (some (10, true)), none, []⟩,
      ⟨some 13, .bin 0 .sub (.t 12) (.c (.int .i64 1)), (some (10, true)), none, []⟩,
      ⟨some 14, .idx 1 (.t 11) (.t 13), (some (10, true)), none, []⟩,
      ⟨some 15, .load 1 false (.t 14), (some (10, true)), none, []⟩,
      ⟨some 16, .bin 0 .eql (.t 15) (.c (.int .i64 0)), (some (10, true)), none, []⟩,
      ⟨some 17, .pick (.t 10) (.t 16) (.c (.bool false)), none, none, []⟩] false [0, 1, 4, 5, 17] [5]) (
   .cond (.t 17) (
    .skip) (
    .exit 0))) T_ref01_made_0
def T_ref01_made_2 : PCode :=
  .seq (
   .reg [⟨some 20, .mv (.t 0), none, none, []⟩,
     ⟨some 21, .mv (.t 20), none, none, []⟩,
     ⟨some 22, .mv (.t 5), (some (21, true)), none, []⟩,
     ⟨some 23, .bin 0 .gtr (.t 22) (.c (.int .i64 0)), (some (21, true)), none, []⟩,
     ⟨some 24, .pick (.t 21) (.t 23) (.c (.bool false)), none, none, []⟩,
     ⟨some 25, .mv (.t 1), none, none, []⟩,
     ⟨some 26, .mv (.t 5), none, none, []⟩,
     ⟨some 27, .slice false 1 (.t 25) none (some (.t 26)) none, none, none, []⟩,
     ⟨some 28, .build [.bool false, .nil0] [(0, 1, .t 24), (1, 1, .t 27)], none, none, []⟩,
     ⟨none, .store 2 (.t 4) (.t 28), none, none, []⟩] false [4] [5]) (
  .ret)
def C_ref01_made : PCode :=
  .seq (
   .reg [⟨some 4, .alloc 5 [.bool false, .nil0] [], none, none, []⟩] false [0, 1, 4] [5]) (
  .seq (
   .reg [⟨some 6, .mv (.t 1), none, none, []⟩,
     ⟨some 7, .len false (.t 6), none, none, []⟩,
     ⟨some 5, .mv (.t 7), none, none, []⟩] false [0, 1, 4, 5] [5]) (
  .seq (
   .block 0 (
    .loop B_ref01_made_1)) T_ref01_made_2))
def D_ref01_made : PFunc := ⟨2, [.cell 4 2 true], false, C_ref01_made⟩
abbrev F_ref01_made : Nat := 64

/-- gimbal/lin.list[[]gimbal/long.Int] -/
def T_lin_list_Slong_Int_0 : PCode :=
  .seq (
   .block 1 (
    .seq (
     .reg [⟨some 13, .mv (.t 11), none, none, []⟩,
       ⟨some 6, .mv (.t 13), none, none, []⟩] false [1, 5, 6, 10, 11] [9, 19]) (
    .reg [⟨some 14, .mv (.t 5), none, none, []⟩,
      ⟨some 15, .mv (.t 6), none, none, []⟩,
      ⟨some 16, .mv (.t 1), none, none, []⟩,
      ⟨some 17, .mv (.t 6), none, none, []⟩,
      ⟨some 18, .call (.t 16) [.t 17] none (some 19), none, none, []⟩,
      ⟨some 19, .idx 1 (.t 14) (.t 15), none, none, []⟩,
      ⟨none, .storeRow (.t 19) (.t 18), none, none, []⟩] false [1, 5, 10, 11] [9, 19]))) (
  .reg [⟨some 20, .bin 0 .add (.t 11) (.c (.int .i64 1)), none, none, []⟩,
    ⟨some 11, .mv (.t 20), none, none, []⟩] false [1, 5, 10, 11] [9, 19])
def B_lin_list_Slong_Int_1 : PCode :=
  .seq (
   .reg [⟨some 12, .bin 0 .lss (.t 11) (.t 10), none, none, []⟩] false [1, 5, 10, 11, 12] [9, 19]) (
  .seq (
   .cond (.t 12) (
    .skip) (
    .exit 0)) T_lin_list_Slong_Int_0)
def T_lin_list_Slong_Int_2 : PCode :=
  .seq (
   .reg [⟨some 21, .mv (.t 5), none, none, []⟩,
     ⟨some 4, .mv (.t 21), none, none, []⟩] false [4] [5, 9, 19]) (
  .ret)
def C_lin_list_Slong_Int : PCode :=
  .seq (
   .reg [⟨some 4, .nils 5 1, none, none, []⟩] false [0, 1] []) (
  .seq (
   .reg [⟨some 7, .mv (.t 0), none, none, []⟩,
     ⟨some 8, .make 9 [.nil0] 24 (.t 7) (.t 7), none, none, []⟩,
     ⟨some 5, .mv (.t 8), none, none, []⟩] false [1, 5] [9, 19]) (
  .seq (
   .seq (
    .reg [⟨some 9, .mv (.t 5), none, none, []⟩,
      ⟨some 10, .len false (.t 9), none, none, []⟩,
      ⟨some 11, .mv (.c (.int .i64 0)), none, none, []⟩] false [1, 5, 10, 11] [9, 19]) (
   .block 0 (
    .loop B_lin_list_Slong_Int_1))) T_lin_list_Slong_Int_2))
def D_lin_list_Slong_Int : PFunc := ⟨2, [.tmp 4], true, C_lin_list_Slong_Int⟩
abbrev F_lin_list_Slong_Int : Nat := 65

/-- (gimbal/lin.Mat).swept$1 -/
def C_lin_Mat_swept_1 : PCode :=
  .seq (
   .reg [⟨some 4, .box 5 (.t 0), none, none, []⟩,
     ⟨some 5, .nils 6 2, none, none, []⟩] false [1, 2, 3, 4] [5]) (
  .seq (
   .reg [⟨some 6, .load 1 false (.t 1), none, none, []⟩,
     ⟨some 7, .bin 0 .add (.t 6) (.c (.int .i64 1)), none, none, []⟩,
     ⟨some 8, .clos 67 [.t 1, .t 2, .t 4, .t 3], none, none, []⟩,
     ⟨some 9, .call (.c (.fn 39 [])) [.t 7, .t 8] none (some 10), none, none, []⟩,
     ⟨some 5, .mv (.t 9), none, none, []⟩] false [5] [6, 10]) (
  .ret))
def D_lin_Mat_swept_1 : PFunc := ⟨4, [.tmp 5], true, C_lin_Mat_swept_1⟩
abbrev F_lin_Mat_swept_1 : Nat := 66

/-- (gimbal/lin.Mat).swept$1$1 -/
def T_lin_Mat_swept_1_1_0 : PCode :=
  .seq (
   .reg [⟨some 17, .load 1 false (.t 4), none, none, []⟩,
     ⟨some 18, .load 1 false (.t 3), none, none, []⟩,
     ⟨some 19, .idx 2 (.t 17) (.t 18), none, none, []⟩,
     ⟨some 20, .load 2 true (.t 19), none, none, []⟩,
     ⟨none, .store 2 (.t 6) (.t 20), none, none, []⟩] false [6] [7]) (
  .ret)
def C_lin_Mat_swept_1_1 : PCode :=
  .seq (
   .reg [⟨some 6, .alloc 7 [.bool false, .nil0] [], none, none, []⟩] false [0, 1, 2, 3, 4, 6] [7]) (
  .seq (
   .seq (
    .reg [⟨some 7, .mv (.t 0), none, none, []⟩,
      ⟨some 8, .load 1 false (.t 1), none, none, []⟩,
      ⟨some 9, .bin 0 .lss (.t 7) (.t 8), none, none, []⟩] false [0, 2, 3, 4, 6, 9] [7]) (
   .cond (.t 9) (
    .seq (
     .reg [⟨some 10, .load 1 false (.t 2), none, none, []⟩,
       ⟨some 11, .load 1 false (.t 3), none, none, []⟩,
       ⟨some 12, .idx 1 (.t 10) (.t 11), none, none, []⟩,
       ⟨some 13, .load 1 false (.t 12), none, none, []⟩,
       ⟨some 14, .mv (.t 0), none, none, []⟩,
       ⟨some 15, .idx 2 (.t 13) (.t 14), none, none, []⟩,
       ⟨some 16, .load 2 true (.t 15), none, none, []⟩,
       ⟨none, .store 2 (.t 6) (.t 16), none, none, []⟩] false [6] [7]) (
    .ret)) (
    .skip))) T_lin_Mat_swept_1_1_0)
def D_lin_Mat_swept_1_1 : PFunc := ⟨5, [.cell 6 2 true], false, C_lin_Mat_swept_1_1⟩
abbrev F_lin_Mat_swept_1_1 : Nat := 67

/-- (gimbal/long.Int).Quo -/
def T_long_Int_Quo_0 : PCode :=
  .seq (
   .reg [⟨some 50, .load 2 true (.t 4), none, none, []⟩,
     ⟨some 51, .load 2 true (.t 5), none, none, [5]⟩,
     ⟨none, .store 2 (.t 4) (.t 50), none, some 5, []⟩,
     ⟨none, .store 2 (.t 5) (.t 51), none, none, []⟩,
     ⟨some 6, .mv (.c (.int .i64 0)), none, none, []⟩] true [4, 5, 6] [5, 6]) (
  .ret)
def T_long_Int_Quo_1 : PCode :=
  .seq (
   .reg [⟨some 16, .field 1 1 (.t 2), none, none, []⟩,
     ⟨some 17, .load 1 false (.t 16), none, none, []⟩,
     ⟨some 18, .field 1 1 (.t 3), none, none, []⟩,
     ⟨some 19, .load 1 false (.t 18), none, none, []⟩,
     ⟨some 20, .call (.c (.fn 77 [])) [.t 17, .t 19] none none, none, none, []⟩,
     ⟨some 15, .mv (.t 20), none, none, []⟩,
     ⟨some 21, .ext (.t 15) 0, none, none, []⟩,
     ⟨some 22, .ext (.t 15) 1, none, none, []⟩,
     ⟨some 7, .mv (.t 21), none, none, []⟩,
     ⟨some 8, .mv (.t 22), none, none, []⟩] false [2, 3, 4, 5, 7, 8] [3, 4, 5, 6]) (
  .seq (
   .reg [⟨some 23, .field 0 1 (.t 2), none, none, []⟩,
     ⟨some 24, .load 1 false (.t 23), none, none, []⟩,
     ⟨some 25, .field 0 1 (.t 3), none, none, []⟩,
     ⟨some 26, .load 1 false (.t 25), none, none, []⟩,
     ⟨some 27, .bin 1 .neq (.t 24) (.t 26), none, none, []⟩,
     ⟨some 28, .mv (.t 7), none, none, []⟩,
     ⟨some 29, .call (.c (.fn 47 [])) [.t 27, .t 28] none none, none, none, []⟩,
     ⟨some 30, .field 0 1 (.t 2), none, none, []⟩,
     ⟨some 31, .load 1 false (.t 30), none, none, [5]⟩,
     ⟨some 32, .mv (.t 8), none, none, []⟩,
     ⟨some 33, .call (.c (.fn 47 [])) [.t 31, .t 32] none none, none, none, []⟩,
     ⟨none, .store 2 (.t 4) (.t 29), none, some 5, []⟩,
     ⟨none, .store 2 (.t 5) (.t 33), none, none, []⟩] true [3, 4, 5] [4, 5, 6]) (
  .seq (
   .seq (
    .reg [⟨some 34, .load 2 true (.t 5), none, none, []⟩,
      ⟨some 35, .call (.c (.fn 12 [])) [.t 34] none none, none, none, []⟩,
      ⟨some 36, .bin 0 .neq (.t 35) (.c (.int .i64 0)), none, none, []⟩,
      ⟨some 37, .mv (.t 36), none, none, []⟩,
      ⟨some 38, .field 0 1 (.t 5), (some (37, true)), none, []⟩,
      ⟨some 39, .load 1 false (.t 38), (some (37, true)), none, []⟩,
      ⟨some 40, .field 0 1 (.t 3), (some (37, true)), none, []⟩,
      ⟨some 41, .load 1 false (.t 40), (some (37, true)), none, []⟩,
      ⟨some 42, .bin 1 .neq (.t 39) (.t 41), (some (37, true)), none, []⟩,
      ⟨some 43, .pick (.t 37) (.t 42) (.c (.bool false)), none, none, []⟩] false [3, 4, 5, 43] [4, 5, 6]) (
   .cond (.t 43) (
    .reg [⟨some 44, .load 2 true (.t 4), none, none, []⟩,
      ⟨some 45, .call (.c (.fn 32 [])) [.c (.int .i64 1)] none none, none, none, []⟩,
      ⟨some 46, .call (.c (.fn 46 [])) [.t 44, .t 45] none none, none, none, []⟩,
      ⟨some 47, .load 2 true (.t 5), none, none, [5]⟩,
      ⟨some 48, .load 2 true (.t 3), none, none, [5]⟩,
      ⟨some 49, .call (.c (.fn 31 [])) [.t 47, .t 48] none none, none, none, []⟩,
      ⟨none, .store 2 (.t 4) (.t 46), none, some 5, []⟩,
      ⟨none, .store 2 (.t 5) (.t 49), none, none, []⟩] true [4, 5] [5, 6]) (
    .skip))) T_long_Int_Quo_0))
def C_long_Int_Quo : PCode :=
  .seq (
   .reg [⟨some 2, .box 3 (.t 0), none, none, []⟩,
     ⟨some 3, .box 4 (.t 1), none, none, []⟩,
     ⟨some 4, .alloc 5 [.bool false, .nil0] [], none, none, []⟩,
     ⟨some 5, .alloc 6 [.bool false, .nil0] [], none, none, []⟩,
     ⟨some 6, .mv (.c (.int .i64 0)), none, none, []⟩] false [2, 3, 4, 5] [3, 4, 5, 6]) (
  .seq (
   .seq (
    .reg [⟨some 9, .field 1 1 (.t 3), none, none, []⟩,
      ⟨some 10, .load 1 false (.t 9), none, none, []⟩,
      ⟨some 11, .len false (.t 10), none, none, []⟩,
      ⟨some 12, .bin 0 .eql (.t 11) (.c (.int .i64 0)), none, none, []⟩] false [2, 3, 4, 5, 12] [3, 4, 5, 6]) (
   .cond (.t 12) (
    .seq (
     .reg [⟨some 13, .build [.bool false, .nil0] [], none, none, []⟩,
       ⟨some 14, .build [.bool false, .nil0] [], none, none, []⟩,
       ⟨none, .store 2 (.t 4) (.t 13), none, none, []⟩,
       ⟨none, .store 2 (.t 5) (.t 14), none, none, []⟩,
       ⟨some 6, .mv (.c (.int .i64 11)), none, none, []⟩] false [4, 5, 6] [5, 6]) (
    .ret)) (
    .skip))) T_long_Int_Quo_1)
def D_long_Int_Quo : PFunc := ⟨2, [.cell 4 2 true, .cell 5 2 true, .tmp 6], false, C_long_Int_Quo⟩
abbrev F_long_Int_Quo : Nat := 68

/-- gimbal/lin.made$1 -/
def C_lin_made_1 : PCode :=
  .seq (
   .reg [⟨some 3, .box 4 (.t 0), none, none, []⟩,
     ⟨some 4, .nils 5 2, none, none, []⟩] false [1, 2, 3] [4]) (
  .seq (
   .reg [⟨some 5, .load 1 false (.t 1), none, none, []⟩,
     ⟨some 6, .clos 70 [.t 2, .t 3], none, none, []⟩,
     ⟨some 7, .call (.c (.fn 39 [])) [.t 5, .t 6] none none, none, none, []⟩,
     ⟨some 4, .mv (.t 7), none, none, []⟩] false [4] [5]) (
  .ret))
def D_lin_made_1 : PFunc := ⟨3, [.tmp 4], false, C_lin_made_1⟩
abbrev F_lin_made_1 : Nat := 69

/-- gimbal/lin.made$1$1 -/
def C_lin_made_1_1 : PCode :=
  .seq (
   .reg [⟨some 4, .alloc 5 [.bool false, .nil0] [], none, none, []⟩] false [0, 1, 2, 4] [5]) (
  .seq (
   .reg [⟨some 5, .load 1 false (.t 1), none, none, []⟩,
     ⟨some 6, .load 1 false (.t 2), none, none, []⟩,
     ⟨some 7, .mv (.t 0), none, none, []⟩,
     ⟨some 8, .call (.t 5) [.t 6, .t 7] none none, none, none, []⟩,
     ⟨none, .store 2 (.t 4) (.t 8), none, none, []⟩] false [4] [5]) (
  .ret))
def D_lin_made_1_1 : PFunc := ⟨3, [.cell 4 2 true], false, C_lin_made_1_1⟩
abbrev F_lin_made_1_1 : Nat := 70

/-- (gimbal/gimbalref01.Int).Add -/
def T_ref01_Int_Add_0 : PCode :=
  .seq (
   .reg [⟨some 34, .field 0 1 (.t 3), none, none, []⟩,
     ⟨some 35, .load 1 false (.t 34), none, none, []⟩,
     ⟨some 36, .field 1 1 (.t 3), none, none, []⟩,
     ⟨some 37, .load 1 false (.t 36), none, none, []⟩,
     ⟨some 38, .field 1 1 (.t 2), none, none, []⟩,
     ⟨some 39, .load 1 false (.t 38), none, none, []⟩,
     ⟨some 40, .call (.c (.fn 79 [])) [.t 37, .t 39] none none, none, none, []⟩,
     ⟨some 41, .call (.c (.fn 64 [])) [.t 35, .t 40] none none, none, none, []⟩,
     ⟨none, .store 2 (.t 4) (.t 41), none, none, []⟩] true [4] [5]) (
  .ret)
def T_ref01_Int_Add_1 : PCode :=
  .seq (
   .reg [⟨some 19, .field 1 1 (.t 2), none, none, []⟩,
     ⟨some 20, .load 1 false (.t 19), none, none, []⟩,
     ⟨some 21, .field 1 1 (.t 3), none, none, []⟩,
     ⟨some 22, .load 1 false (.t 21), none, none, []⟩,
     ⟨some 23, .call (.c (.fn 73 [])) [.t 20, .t 22] none none, none, none, []⟩,
     ⟨some 5, .mv (.t 23), none, none, []⟩] false [2, 3, 4, 5] [3, 4, 5]) (
  .seq (
   .seq (
    .reg [⟨some 24, .mv (.t 5), none, none, []⟩,
      ⟨some 25, .bin 0 .geq (.t 24) (.c (.int .i64 0)), none, none, []⟩] false [2, 3, 4, 25] [3, 4, 5]) (
   .cond (.t 25) (
    .seq (
     .reg [⟨some 26, .field 0 1 (.t 2), none, none, []⟩,
       ⟨some 27, .load 1 false (.t 26), none, none, []⟩,
       ⟨some 28, .field 1 1 (.t 2), none, none, []⟩,
       ⟨some 29, .load 1 false (.t 28), none, none, []⟩,
       ⟨some 30, .field 1 1 (.t 3), none, none, []⟩,
       ⟨some 31, .load 1 false (.t 30), none, none, []⟩,
       ⟨some 32, .call (.c (.fn 79 [])) [.t 29, .t 31] none none, none, none, []⟩,
       ⟨some 33, .call (.c (.fn 64 [])) [.t 27, .t 32] none none, none, none, []⟩,
       ⟨none, .store 2 (.t 4) (.t 33), none, none, []⟩] true [4] [5]) (
    .ret)) (
    .skip))) T_ref01_Int_Add_0)
def C_ref01_Int_Add : PCode :=
  .seq (
   .reg [⟨some 2, .box 3 (.t 0), none, none, []⟩,
     ⟨some 3, .box 4 (.t 1), none, none, []⟩,
     ⟨some 4, .alloc 5 [.bool false, .nil0] [], none, none, []⟩] false [2, 3, 4] [3, 4, 5]) (
  .seq (
   .seq (
    .reg [⟨some 6, .field 0 1 (.t 2), none, none, []⟩,
      ⟨some 7, .load 1 false (.t 6), none, none, []⟩,
      ⟨some 8, .field 0 1 (.t 3), none, none, []⟩,
      ⟨some 9, .load 1 false (.t 8), none, none, []⟩,
      ⟨some 10, .bin 1 .eql (.t 7) (.t 9), none, none, []⟩] false [2, 3, 4, 10] [3, 4, 5]) (
   .cond (.t 10) (
    .seq (
     .reg [⟨some 11, .field 0 1 (.t 2), none, none, []⟩,
       ⟨some 12, .load 1 false (.t 11), none, none, []⟩,
       ⟨some 13, .field 1 1 (.t 2), none, none, []⟩,
       ⟨some 14, .load 1 false (.t 13), none, none, []⟩,
       ⟨some 15, .field 1 1 (.t 3), none, none, []⟩,
       ⟨some 16, .load 1 false (.t 15), none, none, []⟩,
       ⟨some 17, .call (.c (.fn 78 [])) [.t 14, .t 16] none none, none, none, []⟩,
       ⟨some 18, .call (.c (.fn 64 [])) [.t 12, .t 17] none none, none, none, []⟩,
       ⟨none, .store 2 (.t 4) (.t 18), none, none, []⟩] true [4] [5]) (
    .ret)) (
    .skip))) T_ref01_Int_Add_1)
def D_ref01_Int_Add : PFunc := ⟨2, [.cell 4 2 true], false, C_ref01_Int_Add⟩
abbrev F_ref01_Int_Add : Nat := 71

/-- (gimbal/gimbalref01.Int).Mul -/
def T_ref01_Int_Mul_0 : PCode :=
  .seq (
   .reg [⟨some 63, .mv (.t 5), none, none, []⟩,
     ⟨some 64, .mv (.t 6), none, none, []⟩,
     ⟨some 65, .mv (.t 8), none, none, []⟩,
     ⟨some 66, .bin 0 .add (.t 64) (.t 65), none, none, []⟩,
     ⟨some 67, .mv (.t 9), none, none, []⟩,
     ⟨some 68, .bin 0 .rem (.t 67) (.c (.int .i64 10)), none, none, []⟩,
     ⟨some 69, .idx 1 (.t 63) (.t 66), none, none, []⟩,
     ⟨none, .store 1 (.t 69) (.t 68), none, none, []⟩] false [2, 3, 4, 5, 6, 8, 9] [3, 4, 5, 19]) (
  .reg [⟨some 70, .mv (.t 9), none, none, []⟩,
    ⟨some 71, .bin 0 .quo (.t 70) (.c (.int .i64 10)), none, none, []⟩,
    ⟨some 7, .mv (.t 71), none, none, []⟩] false [2, 3, 4, 5, 6, 7, 8] [3, 4, 5, 19])
def T_ref01_Int_Mul_1 : PCode :=
  .reg [⟨some 35, .mv (.t 8), none, none, []⟩,
    ⟨some 36, .bin 0 .add (.t 35) (.c (.int .i64 1)), none, none, []⟩,
    ⟨some 8, .mv (.t 36), none, none, []⟩] false [2, 3, 4, 5, 6, 7, 8] [3, 4, 5, 19]
def T_ref01_Int_Mul_2 : PCode :=
  .seq (
   .block 3 (
    .seq (
     .reg [⟨some 37, .mv (.t 5), none, none, []⟩,
       ⟨some 38, .mv (.t 6), none, none, []⟩,
       ⟨some 39, .mv (.t 8), none, none, []⟩,
       ⟨some 40, .bin 0 .add (.t 38) (.t 39), none, none, []⟩,
       ⟨some 41, .idx 1 (.t 37) (.t 40), none, none, []⟩,
       ⟨some 42, .load 1 false (.t 41), none, none, []⟩,
       ⟨some 43, .mv (.t 7), none, none, []⟩,
       ⟨some 44, .bin 0 .add (.t 42) (.t 43), none, none, []⟩,
       ⟨some 9, .mv (.t 44), none, none, []⟩] false [2, 3, 4, 5, 6, 8, 9] [3, 4, 5, 19]) (
    .seq (
     .seq (
      .reg [⟨some 45, .mv (.t 8), none, none, []⟩,
        ⟨some 46, .field 1 1 (.t 3), none, none, []⟩,
        ⟨some 47, .load 1 false (.t 46), none, none, []⟩,
        ⟨some 48, .len false (.t 47), none, none, []⟩,
        ⟨some 49, .bin 0 .lss (.t 45) (.t 48), none, none, []⟩] false [2, 3, 4, 5, 6, 8, 9, 49] [3, 4, 5, 19]) (
     .cond (.t 49) (
      .reg [⟨some 50, .mv (.t 9), none, none, []⟩,
        ⟨some 51, .field 1 1 (.t 2), none, none, []⟩,
        ⟨some 52, .load 1 false (.t 51), none, none, []⟩,
        ⟨some 53, .mv (.t 6), none, none, []⟩,
        ⟨some 54, .idx 1 (.t 52) (.t 53), none, none, []⟩,
        ⟨some 55, .load 1 false (.t 54), none, none, []⟩,
        ⟨some 56, .field 1 1 (.t 3), none, none, []⟩,
        ⟨some 57, .load 1 false (.t 56), none, none, []⟩,
        ⟨some 58, .mv (.t 8), none, none, []⟩,
        ⟨some 59, .idx 1 (.t 57) (.t 58), none, none, []⟩,
        ⟨some 60, .load 1 false (.t 59), none, none, []⟩,
        ⟨some 61, .bin 0 .mul (.t 55) (.t 60), none, none, []⟩,
        ⟨some 62, .bin 0 .add (.t 50) (.t 61), none, none, []⟩,
        ⟨some 9, .mv (.t 62), none, none, []⟩] true [2, 3, 4, 5, 6, 8, 9] [3, 4, 5, 19]) (
      .skip))) T_ref01_Int_Mul_0))) T_ref01_Int_Mul_1
def B_ref01_Int_Mul_3 : PCode :=
  .seq (
   .seq (
    .reg [⟨some 26, .mv (.t 8), none, none, []⟩,
      ⟨some 27, .field 1 1 (.t 3), none, none, []⟩,
      ⟨some 28, .load 1 false (.t 27), none, none, []⟩,
      ⟨some 29, .len false (.t 28), none, none, []⟩,
      ⟨some 30, .bin 0 .lss (.t 26) (.t 29), none, none, []⟩,
      ⟨some 31, .mv (.t 30), none, none, []⟩,
      ⟨some 32, .mv (.t 7), (some (31, false)), none, []⟩,
      ⟨some 33, .bin 0 .gtr (.t 32) (.c (.int .i64 0)), (some (31, false)), none, []⟩,
      ⟨some 34, .pick (.t 31) (.c (.bool true)) (.t 33), none, none, []⟩] false [2, 3, 4, 5, 6, 7, 8, 34] [3, 4, 5, 19]) (
   .cond (.t 34) (
    .skip) (
    .exit 2))) T_ref01_Int_Mul_2
def T_ref01_Int_Mul_4 : PCode :=
  .reg [⟨some 24, .mv (.t 6), none, none, []⟩,
    ⟨some 25, .bin 0 .add (.t 24) (.c (.int .i64 1)), none, none, []⟩,
    ⟨some 6, .mv (.t 25), none, none, []⟩] false [2, 3, 4, 5, 6] [3, 4, 5, 19]
def T_ref01_Int_Mul_5 : PCode :=
  .seq (
   .block 1 (
    .seq (
     .reg [⟨some 7, .mv (.c (.int .i64 0)), none, none, []⟩] false [2, 3, 4, 5, 6, 7] [3, 4, 5, 19]) (
    .seq (
     .reg [⟨some 8, .mv (.c (.int .i64 0)), none, none, []⟩] false [2, 3, 4, 5, 6, 7, 8] [3, 4, 5, 19]) (
    .block 2 (
     .loop B_ref01_Int_Mul_3))))) T_ref01_Int_Mul_4
def B_ref01_Int_Mul_6 : PCode :=
  .seq (
   .seq (
    .reg [⟨some 19, .mv (.t 6), none, none, []⟩,
      ⟨some 20, .field 1 1 (.t 2), none, none, []⟩,
      ⟨some 21, .load 1 false (.t 20), none, none, []⟩,
      ⟨some 22, .len false (.t 21), none, none, []⟩,
      ⟨some 23, .bin 0 .lss (.t 19) (.t 22), none, none, []⟩] false [2, 3, 4, 5, 6, 23] [3, 4, 5, 19]) (
   .cond (.t 23) (
    .skip) (
    .exit 0))) T_ref01_Int_Mul_5
def T_ref01_Int_Mul_7 : PCode :=
  .seq (
   .reg [⟨some 72, .field 0 1 (.t 2), none, none, []⟩,
     ⟨some 73, .load 1 false (.t 72), none, none, []⟩,
     ⟨some 74, .field 0 1 (.t 3), none, none, []⟩,
     ⟨some 75, .load 1 false (.t 74), none, none, []⟩,
     ⟨some 76, .bin 1 .neq (.t 73) (.t 75), none, none, []⟩,
     ⟨some 77, .mv (.t 5), none, none, []⟩,
     ⟨some 78, .call (.c (.fn 64 [])) [.t 76, .t 77] none none, none, none, []⟩,
     ⟨none, .store 2 (.t 4) (.t 78), none, none, []⟩] false [4] [5]) (
  .ret)
def C_ref01_Int_Mul : PCode :=
  .seq (
   .reg [⟨some 2, .box 3 (.t 0), none, none, []⟩,
     ⟨some 3, .box 4 (.t 1), none, none, []⟩,
     ⟨some 4, .alloc 5 [.bool false, .nil0] [], none, none, []⟩] false [2, 3, 4] [3, 4, 5]) (
  .seq (
   .reg [⟨some 10, .field 1 1 (.t 2), none, none, []⟩,
     ⟨some 11, .load 1 false (.t 10), none, none, []⟩,
     ⟨some 12, .len false (.t 11), none, none, []⟩,
     ⟨some 13, .field 1 1 (.t 3), none, none, []⟩,
     ⟨some 14, .load 1 false (.t 13), none, none, []⟩,
     ⟨some 15, .len false (.t 14), none, none, []⟩,
     ⟨some 16, .bin 0 .add (.t 12) (.t 15), none, none, []⟩,
     ⟨some 17, .bin 0 .add (.t 16) (.c (.int .i64 1)), none, none, []⟩,
     ⟨some 18, .make 19 [.int .i64 0] 8 (.t 17) (.t 17), none, none, []⟩,
     ⟨some 5, .mv (.t 18), none, none, []⟩] false [2, 3, 4, 5] [3, 4, 5, 19]) (
  .seq (
   .seq (
    .reg [⟨some 6, .mv (.c (.int .i64 0)), none, none, []⟩] false [2, 3, 4, 5, 6] [3, 4, 5, 19]) (
   .block 0 (
    .loop B_ref01_Int_Mul_6))) T_ref01_Int_Mul_7))
def D_ref01_Int_Mul : PFunc := ⟨2, [.cell 4 2 true], false, C_ref01_Int_Mul⟩
abbrev F_ref01_Int_Mul : Nat := 72

/-- gimbal/gimbalref01.size -/
def T_ref01_size_0 : PCode :=
  .seq (
   .reg [⟨some 4, .mv (.c (.int .i64 1)), none, none, []⟩] false [4] []) (
  .ret)
def T_ref01_size_1 : PCode :=
  .seq (
   .reg [⟨some 32, .mv (.t 0), none, none, []⟩,
     ⟨some 33, .mv (.t 5), none, none, []⟩,
     ⟨some 34, .idx 1 (.t 32) (.t 33), none, none, []⟩,
     ⟨some 35, .load 1 false (.t 34), none, none, []⟩,
     ⟨some 36, .mv (.t 1), none, none, []⟩,
     ⟨some 37, .mv (.t 5), none, none, []⟩,
     ⟨some 38, .idx 1 (.t 36) (.t 37), none, none, []⟩,
     ⟨some 39, .load 1 false (.t 38), none, none, []⟩,
     ⟨some 40, .bin 0 .gtr (.t 35) (.t 39), none, none, []⟩] true [0, 1, 5, 40] []) (
  .cond (.t 40) (
   .seq (
    .reg [⟨some 4, .mv (.c (.int .i64 1)), none, none, []⟩] false [4] []) (
   .ret)) (
   .skip))
def T_ref01_size_2 : PCode :=
  .reg [⟨some 21, .mv (.t 5), none, none, []⟩,
    ⟨some 22, .bin 0 .sub (.t 21) (.c (.int .i64 1)), none, none, []⟩,
    ⟨some 5, .mv (.t 22), none, none, []⟩] false [0, 1, 5] []
def T_ref01_size_3 : PCode :=
  .seq (
   .block 1 (
    .seq (
     .seq (
      .reg [⟨some 23, .mv (.t 0), none, none, []⟩,
        ⟨some 24, .mv (.t 5), none, none, []⟩,
        ⟨some 25, .idx 1 (.t 23) (.t 24), none, none, []⟩,
        ⟨some 26, .load 1 false (.t 25), none, none, []⟩,
        ⟨some 27, .mv (.t 1), none, none, []⟩,
        ⟨some 28, .mv (.t 5), none, none, []⟩,
        ⟨some 29, .idx 1 (.t 27) (.t 28), none, none, []⟩,
        ⟨some 30, .load 1 false (.t 29), none, none, []⟩,
        ⟨some 31, .bin 0 .lss (.t 26) (.t 30), none, none, []⟩] true [0, 1, 5, 31] []) (
     .cond (.t 31) (
      .seq (
       .reg [⟨some 4, .mv (.c (.int .i64 (-1))), none, none, []⟩] false [4] []) (
      .ret)) (
      .skip))) T_ref01_size_1)) T_ref01_size_2
def B_ref01_size_4 : PCode :=
  .seq (
   .seq (
    .reg [⟨some 19, .mv (.t 5), none, none, []⟩,
      ⟨some 20, .bin 0 .geq (.t 19) (.c (.int .i64 0)), none, none, []⟩] false [0, 1, 5, 20] []) (
   .cond (.t 20) (
    .skip) (
    .exit 0))) T_ref01_size_3
def T_ref01_size_5 : PCode :=
  .seq (
   .reg [⟨some 4, .mv (.c (.int .i64 0)), none, none, []⟩] false [4] []) (
  .ret)
def T_ref01_size_6 : PCode :=
  .seq (
   .seq (
    .reg [⟨some 16, .mv (.t 0), none, none, []⟩,
      ⟨some 17, .len false (.t 16), none, none, []⟩,
      ⟨some 18, .bin 0 .sub (.t 17) (.c (.int .i64 1)), none, none, []⟩,
      ⟨some 5, .mv (.t 18), none, none, []⟩] false [0, 1, 5] []) (
   .block 0 (
    .loop B_ref01_size_4))) T_ref01_size_5
def C_ref01_size : PCode :=
  .seq (
   .reg [⟨some 4, .mv (.c (.int .i64 0)), none, none, []⟩] false [0, 1] []) (
  .seq (
   .seq (
    .reg [⟨some 6, .mv (.t 0), none, none, []⟩,
      ⟨some 7, .len false (.t 6), none, none, []⟩,
      ⟨some 8, .mv (.t 1), none, none, []⟩,
      ⟨some 9, .len false (.t 8), none, none, []⟩,
      ⟨some 10, .bin 0 .neq (.t 7) (.t 9), none, none, []⟩] false [0, 1, 10] []) (
   .cond (.t 10) (
    .seq (
     .seq (
      .reg [⟨some 11, .mv (.t 0), none, none, []⟩,
        ⟨some 12, .len false (.t 11), none, none, []⟩,
        ⟨some 13, .mv (.t 1), none, none, []⟩,
        ⟨some 14, .len false (.t 13), none, none, []⟩,
        ⟨some 15, .bin 0 .lss (.t 12) (.t 14), none, none, []⟩] false [15] []) (
     .cond (.t 15) (
      .seq (
       .reg [⟨some 4, .mv (.c (.int .i64 (-1))), none, none, []⟩] false [4] []) (
      .ret)) (
      .skip))) T_ref01_size_0) (
    .skip))) T_ref01_size_6)
def D_ref01_size : PFunc := ⟨2, [.tmp 4], false, C_ref01_size⟩
abbrev F_ref01_size : Nat := 73

/-- gimbal/gimbalref07.without -/
def T_ref07_without_0 : PCode :=
  .reg [⟨some 22, .mv (.t 8), none, none, []⟩,
    ⟨some 23, .bin 0 .add (.t 22) (.c (.int .i64 1)), none, none, []⟩,
    ⟨some 8, .mv (.t 23), none, none, []⟩] false [0, 1, 5, 6, 7, 8] [6, 8]
def T_ref07_without_1 : PCode :=
  .seq (
   .block 3 (
    .seq (
     .reg [⟨some 24, .mv (.t 8), none, none, []⟩,
       ⟨some 25, .mv (.t 1), none, none, []⟩,
       ⟨some 26, .bin 0 .neq (.t 24) (.t 25), none, none, []⟩] false [0, 1, 5, 6, 7, 8, 26] [6, 8]) (
    .cond (.t 26) (
     .reg [⟨some 27, .mv (.t 7), none, none, []⟩,
       ⟨some 28, .mv (.t 0), none, none, []⟩,
       ⟨some 29, .mv (.t 6), none, none, []⟩,
       ⟨some 30, .idx 1 (.t 28) (.t 29), none, none, []⟩,
       ⟨some 31, .load 1 false (.t 30), none, none, []⟩,
       ⟨some 32, .mv (.t 8), none, none, []⟩,
       ⟨some 33, .idx 2 (.t 31) (.t 32), none, none, []⟩,
       ⟨some 34, .load 2 true (.t 33), none, none, []⟩,
       ⟨some 35, .lits 36 2 1 [.t 34], none, none, []⟩,
       ⟨some 36, .app 8 2 32 (.t 27) (.t 35), none, none, []⟩,
       ⟨some 7, .mv (.t 36), none, none, []⟩] false [0, 1, 5, 6, 7, 8] [6, 8]) (
     .skip)))) T_ref07_without_0
def B_ref07_without_2 : PCode :=
  .seq (
   .seq (
    .reg [⟨some 15, .mv (.t 8), none, none, []⟩,
      ⟨some 16, .mv (.t 0), none, none, []⟩,
      ⟨some 17, .mv (.t 6), none, none, []⟩,
      ⟨some 18, .idx 1 (.t 16) (.t 17), none, none, []⟩,
      ⟨some 19, .load 1 false (.t 18), none, none, []⟩,
      ⟨some 20, .len false (.t 19), none, none, []⟩,
      ⟨some 21, .bin 0 .lss (.t 15) (.t 20), none, none, []⟩] false [0, 1, 5, 6, 7, 8, 21] [6, 8]) (
   .cond (.t 21) (
    .skip) (
    .exit 2))) T_ref07_without_1
def T_ref07_without_3 : PCode :=
  .reg [⟨some 37, .mv (.t 5), none, none, []⟩,
    ⟨some 38, .mv (.t 7), none, none, []⟩,
    ⟨some 39, .lits 40 1 1 [.t 38], none, none, []⟩,
    ⟨some 40, .app 6 1 24 (.t 37) (.t 39), none, none, []⟩,
    ⟨some 5, .mv (.t 40), none, none, []⟩] false [0, 1, 5, 6] [6, 8]
def T_ref07_without_4 : PCode :=
  .reg [⟨some 13, .mv (.t 6), none, none, []⟩,
    ⟨some 14, .bin 0 .add (.t 13) (.c (.int .i64 1)), none, none, []⟩,
    ⟨some 6, .mv (.t 14), none, none, []⟩] false [0, 1, 5, 6] [6, 8]
def T_ref07_without_5 : PCode :=
  .seq (
   .block 1 (
    .seq (
     .reg [⟨some 7, .nils 8 2, none, none, []⟩] false [0, 1, 5, 6, 7] [6, 8]) (
    .seq (
     .seq (
      .reg [⟨some 8, .mv (.c (.int .i64 0)), none, none, []⟩] false [0, 1, 5, 6, 7, 8] [6, 8]) (
     .block 2 (
      .loop B_ref07_without_2))) T_ref07_without_3))) T_ref07_without_4
def B_ref07_without_6 : PCode :=
  .seq (
   .seq (
    .reg [⟨some 9, .mv (.t 6), none, none, []⟩,
      ⟨some 10, .mv (.t 0), none, none, []⟩,
      ⟨some 11, .len false (.t 10), none, none, []⟩,
      ⟨some 12, .bin 0 .lss (.t 9) (.t 11), none, none, []⟩] false [0, 1, 5, 6, 12] [6, 8]) (
   .cond (.t 12) (
    .skip) (
    .exit 0))) T_ref07_without_5
def T_ref07_without_7 : PCode :=
  .seq (
   .reg [⟨some 41, .mv (.t 5), none, none, []⟩,
     ⟨some 4, .mv (.t 41), none, none, []⟩] false [4] [5, 6, 8]) (
  .ret)
def C_ref07_without : PCode :=
  .seq (
   .reg [⟨some 4, .nils 5 1, none, none, []⟩] false [0, 1] []) (
  .seq (
   .reg [⟨some 5, .nils 6 1, none, none, []⟩] false [0, 1, 5] [6, 8]) (
  .seq (
   .seq (
    .reg [⟨some 6, .mv (.c (.int .i64 1)), none, none, []⟩] false [0, 1, 5, 6] [6, 8]) (
   .block 0 (
    .loop B_ref07_without_6))) T_ref07_without_7))
def D_ref07_without : PFunc := ⟨2, [.tmp 4], false, C_ref07_without⟩
abbrev F_ref07_without : Nat := 74

/-- (gimbal/gimbalref01.Int).Minus -/
def C_ref01_Int_Minus : PCode :=
  .seq (
   .reg [⟨some 1, .box 2 (.t 0), none, none, []⟩,
     ⟨some 2, .alloc 3 [.bool false, .nil0] [], none, none, []⟩] false [1, 2] [2, 3]) (
  .seq (
   .reg [⟨some 3, .field 0 1 (.t 1), none, none, []⟩,
     ⟨some 4, .load 1 false (.t 3), none, none, []⟩,
     ⟨some 5, .un .not (.t 4), none, none, []⟩,
     ⟨some 6, .field 1 1 (.t 1), none, none, []⟩,
     ⟨some 7, .load 1 false (.t 6), none, none, []⟩,
     ⟨some 8, .call (.c (.fn 64 [])) [.t 5, .t 7] none none, none, none, []⟩,
     ⟨none, .store 2 (.t 2) (.t 8), none, none, []⟩] false [2] [3]) (
  .ret))
def D_ref01_Int_Minus : PFunc := ⟨1, [.cell 2 2 true], false, C_ref01_Int_Minus⟩
abbrev F_ref01_Int_Minus : Nat := 75

/-- slices.Clone[[]uint32,uint32] -/
def T_slices_Clone_Suint32_uint32_0 : PCode :=
  .seq (
   .reg [⟨some 5, .lits 6 1 0 [], none, none, []⟩,
     ⟨some 6, .mv (.t 0), none, none, []⟩,
     ⟨some 7, .app 8 1 4 (.t 5) (.t 6), none, none, []⟩,
     ⟨some 2, .mv (.t 7), none, none, []⟩] false [2] [0, 3, 8]) (
  .ret)
def C_slices_Clone_Suint32_uint32 : PCode :=
  .seq (
   .reg [⟨some 2, .nils 3 1, none, none, []⟩] false [0] [0]) (
  .seq (
   .seq (
    .reg [⟨some 3, .mv (.t 0), none, none, []⟩,
      ⟨some 4, .bin 3 .eql (.t 3) (.c (.nil0)), none, none, []⟩] false [0, 4] [0]) (
   .cond (.t 4) (
    .seq (
     .reg [⟨some 2, .nils 3 1, none, none, []⟩] false [2] [0, 3, 8]) (
    .ret)) (
    .skip))) T_slices_Clone_Suint32_uint32_0)
def D_slices_Clone_Suint32_uint32 : PFunc := ⟨1, [.tmp 2], true, C_slices_Clone_Suint32_uint32⟩
abbrev F_slices_Clone_Suint32_uint32 : Nat := 76

/-- gimbal/long.parted -/
def T_long_parted_0 : PCode :=
  .reg [⟨some 90, .bin 0 .add (.t 61) (.c (.int .i64 1)), none, none, []⟩,
    ⟨some 61, .mv (.t 90), none, none, []⟩] false [4, 8, 11, 59, 60, 61] [5, 59]
def T_long_parted_1 : PCode :=
  .seq (
   .block 2 (
    .seq (
     .reg [⟨some 63, .mv (.t 61), none, none, []⟩,
       ⟨some 64, .idx 1 (.t 59) (.t 61), none, none, []⟩,
       ⟨some 65, .load 1 false (.t 64), none, none, []⟩,
       ⟨some 12, .mv (.t 63), none, none, []⟩,
       ⟨some 13, .mv (.t 65), none, none, []⟩] false [4, 8, 11, 12, 13, 59, 60, 61] [5, 59]) (
    .seq (
     .reg [⟨some 66, .mv (.t 11), none, none, []⟩,
       ⟨some 67, .mv (.t 12), none, none, []⟩,
       ⟨some 68, .idx 1 (.t 66) (.t 67), none, none, []⟩,
       ⟨some 69, .load 1 false (.t 68), none, none, []⟩,
       ⟨some 70, .mv (.t 13), none, none, []⟩,
       ⟨some 71, .mv (.t 8), none, none, []⟩,
       ⟨some 72, .bin 0 .shr (.t 70) (.t 71), none, none, []⟩,
       ⟨some 73, .bin 0 .or (.t 69) (.t 72), none, none, []⟩,
       ⟨some 74, .idx 1 (.t 66) (.t 67), none, none, []⟩,
       ⟨none, .store 1 (.t 74) (.t 73), none, none, []⟩] true [4, 8, 11, 12, 13, 59, 60, 61] [5, 59]) (
    .seq (
     .reg [⟨some 75, .mv (.t 12), none, none, []⟩,
       ⟨some 76, .bin 0 .gtr (.t 75) (.c (.int .i64 0)), none, none, []⟩] false [4, 8, 11, 12, 13, 59, 60, 61, 76] [5, 59]) (
    .cond (.t 76) (
     .reg [⟨some 77, .mv (.t 11), none, none, []⟩,
       ⟨some 78, .mv (.t 12), none, none, []⟩,
       ⟨some 79, .bin 0 .sub (.t 78) (.c (.int .i64 1)), none, none, []⟩,
       ⟨some 80, .idx 1 (.t 77) (.t 79), none, none, []⟩,
       ⟨some 81, .load 1 false (.t 80), none, none, []⟩,
       ⟨some 82, .mv (.t 13), none, none, []⟩,
       ⟨some 83, .conv .u64 (.t 82), none, none, []⟩,
       ⟨some 84, .mv (.t 8), none, none, []⟩,
       ⟨some 85, .bin 0 .sub (.c (.int .i64 32)) (.t 84), none, none, []⟩,
       ⟨some 86, .bin 0 .shl (.t 83) (.t 85), none, none, []⟩,
       ⟨some 87, .conv .u32 (.t 86), none, none, []⟩,
       ⟨some 88, .bin 0 .or (.t 81) (.t 87), none, none, []⟩,
       ⟨some 89, .idx 1 (.t 77) (.t 79), none, none, []⟩,
       ⟨none, .store 1 (.t 89) (.t 88), none, none, []⟩] true [4, 8, 11, 59, 60, 61] [5, 59]) (
     .skip)))))) T_long_parted_0
def B_long_parted_2 : PCode :=
  .seq (
   .reg [⟨some 62, .bin 0 .lss (.t 61) (.t 60), none, none, []⟩] false [4, 8, 11, 59, 60, 61, 62] [5, 59]) (
  .seq (
   .cond (.t 62) (
    .skip) (
    .exit 1)) T_long_parted_1)
def T_long_parted_3 : PCode :=
  .seq (
   .reg [⟨some 91, .mv (.t 4), none, none, []⟩,
     ⟨some 92, .mv (.t 11), none, none, []⟩,
     ⟨some 4, .mv (.t 91), none, none, []⟩,
     ⟨some 5, .mv (.t 92), none, none, []⟩] false [4, 5] [5, 6, 35, 59]) (
  .ret)
def T_long_parted_4 : PCode :=
  .seq (
   .reg [⟨some 35, .mv (.t 1), none, none, []⟩,
     ⟨some 36, .mv (.t 1), none, none, []⟩,
     ⟨some 37, .len false (.t 36), none, none, []⟩,
     ⟨some 38, .bin 0 .sub (.t 37) (.c (.int .i64 1)), none, none, []⟩,
     ⟨some 39, .idx 1 (.t 35) (.t 38), none, none, []⟩,
     ⟨some 40, .load 1 false (.t 39), none, none, []⟩,
     ⟨some 41, .call (.c (.fn 80 [])) [.t 40] none none, none, none, []⟩,
     ⟨some 8, .mv (.t 41), none, none, []⟩] false [0, 1, 8] []) (
  .seq (
   .reg [⟨some 42, .mv (.t 0), none, none, []⟩,
     ⟨some 43, .mv (.t 8), none, none, []⟩,
     ⟨some 44, .call (.c (.fn 81 [])) [.t 42, .t 43] none (some 45), none, none, []⟩,
     ⟨some 9, .mv (.t 44), none, none, []⟩] false [1, 8, 9] [45]) (
  .seq (
   .reg [⟨some 45, .mv (.t 9), none, none, []⟩,
     ⟨some 46, .mv (.t 1), none, none, []⟩,
     ⟨some 47, .mv (.t 8), none, none, []⟩,
     ⟨some 48, .call (.c (.fn 81 [])) [.t 46, .t 47] none none, none, none, []⟩,
     ⟨some 49, .mv (.t 1), none, none, []⟩,
     ⟨some 50, .len false (.t 49), none, none, []⟩,
     ⟨some 51, .slice false 1 (.t 48) none (some (.t 50)) none, none, none, []⟩,
     ⟨some 52, .call (.c (.fn 82 [])) [.t 45, .t 51] (some 0) none, none, none, []⟩,
     ⟨some 4, .mv (.t 52), none, none, []⟩] false [4, 8, 9] [5, 45]) (
  .seq (
   .reg [⟨some 53, .mv (.t 9), none, none, []⟩,
     ⟨some 54, .call (.c (.fn 47 [])) [.c (.bool false), .t 53] none none, none, none, []⟩,
     ⟨some 55, .getf 1 1 false (.t 54), none, none, []⟩,
     ⟨some 10, .mv (.t 55), none, none, []⟩] false [4, 8, 10] [5]) (
  .seq (
   .reg [⟨some 56, .mv (.t 10), none, none, []⟩,
     ⟨some 57, .len false (.t 56), none, none, []⟩,
     ⟨some 58, .make 59 [.int .u32 0] 4 (.t 57) (.t 57), none, none, []⟩,
     ⟨some 11, .mv (.t 58), none, none, []⟩] false [4, 8, 10, 11] [5, 59]) (
  .seq (
   .seq (
    .reg [⟨some 59, .mv (.t 10), none, none, []⟩,
      ⟨some 60, .len false (.t 59), none, none, []⟩,
      ⟨some 61, .mv (.c (.int .i64 0)), none, none, []⟩] false [4, 8, 11, 59, 60, 61] [5, 59]) (
   .block 1 (
    .loop B_long_parted_2))) T_long_parted_3)))))
def C_long_parted : PCode :=
  .seq (
   .reg [⟨some 4, .nils 5 1, none, none, []⟩,
     ⟨some 5, .nils 6 1, none, none, []⟩] false [0, 1] []) (
  .seq (
   .block 0 (
    .seq (
     .reg [⟨some 15, .mv (.t 0), none, none, []⟩,
       ⟨some 16, .mv (.t 1), none, none, []⟩,
       ⟨some 17, .call (.c (.fn 61 [])) [.t 15, .t 16] none none, none, none, []⟩,
       ⟨some 18, .bin 0 .lss (.t 17) (.c (.int .i64 0)), none, none, []⟩,
       ⟨some 14, .mv (.t 18), none, none, []⟩] false [0, 1, 14] []) (
    .cond (.t 14) (
     .seq (
      .reg [⟨some 19, .mv (.t 0), none, none, []⟩,
        ⟨some 4, .nils 5 1, none, none, []⟩,
        ⟨some 5, .mv (.t 19), none, none, []⟩] false [4, 5] [5, 6, 35, 59]) (
     .ret)) (
     .seq (
      .reg [⟨some 21, .mv (.t 1), none, none, []⟩,
        ⟨some 22, .len false (.t 21), none, none, []⟩,
        ⟨some 23, .bin 0 .eql (.t 22) (.c (.int .i64 1)), none, none, []⟩,
        ⟨some 20, .mv (.t 23), none, none, []⟩] false [0, 1, 20] []) (
     .cond (.t 20) (
      .seq (
       .reg [⟨some 25, .mv (.t 0), none, none, []⟩,
         ⟨some 26, .mv (.t 1), none, none, []⟩,
         ⟨some 27, .idx 1 (.t 26) (.c (.int .i64 0)), none, none, []⟩,
         ⟨some 28, .load 1 false (.t 27), none, none, []⟩,
         ⟨some 29, .call (.c (.fn 53 [])) [.t 25, .t 28] none none, none, none, []⟩,
         ⟨some 24, .mv (.t 29), none, none, []⟩,
         ⟨some 30, .ext (.t 24) 0, none, none, []⟩,
         ⟨some 31, .ext (.t 24) 1, none, none, []⟩,
         ⟨some 6, .mv (.t 30), none, none, []⟩,
         ⟨some 7, .mv (.t 31), none, none, []⟩] false [6, 7] []) (
      .seq (
       .reg [⟨some 32, .mv (.t 6), none, none, []⟩,
         ⟨some 33, .mv (.t 7), none, none, []⟩,
         ⟨some 34, .lits 35 1 1 [.t 33], none, none, []⟩,
         ⟨some 4, .mv (.t 32), none, none, []⟩,
         ⟨some 5, .mv (.t 34), none, none, []⟩] false [4, 5] [5, 6, 35, 59]) (
      .ret))) (
      .skip)))))) T_long_parted_4)
def D_long_parted : PFunc := ⟨2, [.tmp 4, .tmp 5], false, C_long_parted⟩
abbrev F_long_parted : Nat := 77

/-- gimbal/gimbalref01.plus -/
def T_ref01_plus_0 : PCode :=
  .seq (
   .reg [⟨some 46, .mv (.t 5), none, none, []⟩,
     ⟨some 47, .mv (.t 8), none, none, []⟩,
     ⟨some 48, .bin 0 .rem (.t 47) (.c (.int .i64 10)), none, none, []⟩,
     ⟨some 49, .lits 50 1 1 [.t 48], none, none, []⟩,
     ⟨some 50, .app 6 1 8 (.t 46) (.t 49), none, none, []⟩,
     ⟨some 5, .mv (.t 50), none, none, []⟩] false [0, 1, 5, 7, 8] [6]) (
  .reg [⟨some 51, .mv (.t 8), none, none, []⟩,
    ⟨some 52, .bin 0 .quo (.t 51) (.c (.int .i64 10)), none, none, []⟩,
    ⟨some 6, .mv (.t 52), none, none, []⟩] false [0, 1, 5, 6, 7] [6])
def T_ref01_plus_1 : PCode :=
  .seq (
   .seq (
    .reg [⟨some 36, .mv (.t 7), none, none, []⟩,
      ⟨some 37, .mv (.t 1), none, none, []⟩,
      ⟨some 38, .len false (.t 37), none, none, []⟩,
      ⟨some 39, .bin 0 .lss (.t 36) (.t 38), none, none, []⟩] false [0, 1, 5, 7, 8, 39] [6]) (
   .cond (.t 39) (
    .reg [⟨some 40, .mv (.t 8), none, none, []⟩,
      ⟨some 41, .mv (.t 1), none, none, []⟩,
      ⟨some 42, .mv (.t 7), none, none, []⟩,
      ⟨some 43, .idx 1 (.t 41) (.t 42), none, none, []⟩,
      ⟨some 44, .load 1 false (.t 43), none, none, []⟩,
      ⟨some 45, .bin 0 .add (.t 40) (.t 44), none, none, []⟩,
      ⟨some 8, .mv (.t 45), none, none, []⟩] false [0, 1, 5, 7, 8] [6]) (
    .skip))) T_ref01_plus_0
def T_ref01_plus_2 : PCode :=
  .reg [⟨some 23, .mv (.t 7), none, none, []⟩,
    ⟨some 24, .bin 0 .add (.t 23) (.c (.int .i64 1)), none, none, []⟩,
    ⟨some 7, .mv (.t 24), none, none, []⟩] false [0, 1, 5, 6, 7] [6]
def T_ref01_plus_3 : PCode :=
  .seq (
   .block 1 (
    .seq (
     .reg [⟨some 25, .mv (.t 6), none, none, []⟩,
       ⟨some 8, .mv (.t 25), none, none, []⟩] false [0, 1, 5, 7, 8] [6]) (
    .seq (
     .seq (
      .reg [⟨some 26, .mv (.t 7), none, none, []⟩,
        ⟨some 27, .mv (.t 0), none, none, []⟩,
        ⟨some 28, .len false (.t 27), none, none, []⟩,
        ⟨some 29, .bin 0 .lss (.t 26) (.t 28), none, none, []⟩] false [0, 1, 5, 7, 8, 29] [6]) (
     .cond (.t 29) (
      .reg [⟨some 30, .mv (.t 8), none, none, []⟩,
        ⟨some 31, .mv (.t 0), none, none, []⟩,
        ⟨some 32, .mv (.t 7), none, none, []⟩,
        ⟨some 33, .idx 1 (.t 31) (.t 32), none, none, []⟩,
        ⟨some 34, .load 1 false (.t 33), none, none, []⟩,
        ⟨some 35, .bin 0 .add (.t 30) (.t 34), none, none, []⟩,
        ⟨some 8, .mv (.t 35), none, none, []⟩] false [0, 1, 5, 7, 8] [6]) (
      .skip))) T_ref01_plus_1))) T_ref01_plus_2
def B_ref01_plus_4 : PCode :=
  .seq (
   .seq (
    .reg [⟨some 9, .mv (.t 7), none, none, []⟩,
      ⟨some 10, .mv (.t 0), none, none, []⟩,
      ⟨some 11, .len false (.t 10), none, none, []⟩,
      ⟨some 12, .bin 0 .lss (.t 9) (.t 11), none, none, []⟩,
      ⟨some 13, .mv (.t 12), none, none, []⟩,
      ⟨some 14, .mv (.t 7), (some (13, false)), none, []⟩,
      ⟨some 15, .mv (.t 1), (some (13, false)), none, []⟩,
      ⟨some 16, .len false (.t 15), (some (13, false)), none, []⟩,
      ⟨some 17, .bin 0 .lss (.t 14) (.t 16), (some (13, false)), none, []⟩,
      ⟨some 18, .pick (.t 13) (.c (.bool true)) (.t 17), none, none, []⟩,
      ⟨some 19, .mv (.t 18), none, none, []⟩,
      ⟨some 20, .mv (.t 6), (some (19, false)), none, []⟩,
      ⟨some 21, .bin 0 .gtr (.t 20) (.c (.int .i64 0)), (some (19, false)), none, []⟩,
      ⟨some 22, .pick (.t 19) (.c (.bool true)) (.t 21), none, none, []⟩] false [0, 1, 5, 6, 7, 22] [6]) (
   .cond (.t 22) (
    .skip) (
    .exit 0))) T_ref01_plus_3
def T_ref01_plus_5 : PCode :=
  .seq (
   .reg [⟨some 53, .mv (.t 5), none, none, []⟩,
     ⟨some 4, .mv (.t 53), none, none, []⟩] false [4] [5, 6]) (
  .ret)
def C_ref01_plus : PCode :=
  .seq (
   .reg [⟨some 4, .nils 5 1, none, none, []⟩] false [0, 1] []) (
  .seq (
   .reg [⟨some 5, .nils 6 1, none, none, []⟩] false [0, 1, 5] [6]) (
  .seq (
   .reg [⟨some 6, .mv (.c (.int .i64 0)), none, none, []⟩] false [0, 1, 5, 6] [6]) (
  .seq (
   .seq (
    .reg [⟨some 7, .mv (.c (.int .i64 0)), none, none, []⟩] false [0, 1, 5, 6, 7] [6]) (
   .block 0 (
    .loop B_ref01_plus_4))) T_ref01_plus_5)))
def D_ref01_plus : PFunc := ⟨2, [.tmp 4], false, C_ref01_plus⟩
abbrev F_ref01_plus : Nat := 78

/-- gimbal/gimbalref01.less -/
def T_ref01_less_0 : PCode :=
  .reg [⟨some 35, .mv (.t 5), none, none, []⟩,
    ⟨some 36, .mv (.t 8), none, none, []⟩,
    ⟨some 37, .lits 38 1 1 [.t 36], none, none, []⟩,
    ⟨some 38, .app 6 1 8 (.t 35) (.t 37), none, none, []⟩,
    ⟨some 5, .mv (.t 38), none, none, []⟩] false [0, 1, 5, 6, 7] [6]
def T_ref01_less_1 : PCode :=
  .seq (
   .reg [⟨some 6, .mv (.c (.int .i64 0)), none, none, []⟩] false [0, 1, 5, 6, 7, 8] [6]) (
  .seq (
   .seq (
    .reg [⟨some 31, .mv (.t 8), none, none, []⟩,
      ⟨some 32, .bin 0 .lss (.t 31) (.c (.int .i64 0)), none, none, []⟩] false [0, 1, 5, 6, 7, 8, 32] [6]) (
   .cond (.t 32) (
    .seq (
     .reg [⟨some 33, .mv (.t 8), none, none, []⟩,
       ⟨some 34, .bin 0 .add (.t 33) (.c (.int .i64 10)), none, none, []⟩,
       ⟨some 8, .mv (.t 34), none, none, []⟩] false [0, 1, 5, 7, 8] [6]) (
    .reg [⟨some 6, .mv (.c (.int .i64 1)), none, none, []⟩] false [0, 1, 5, 6, 7, 8] [6])) (
    .skip))) T_ref01_less_0)
def T_ref01_less_2 : PCode :=
  .reg [⟨some 13, .mv (.t 7), none, none, []⟩,
    ⟨some 14, .bin 0 .add (.t 13) (.c (.int .i64 1)), none, none, []⟩,
    ⟨some 7, .mv (.t 14), none, none, []⟩] false [0, 1, 5, 6, 7] [6]
def T_ref01_less_3 : PCode :=
  .seq (
   .block 1 (
    .seq (
     .reg [⟨some 15, .mv (.t 0), none, none, []⟩,
       ⟨some 16, .mv (.t 7), none, none, []⟩,
       ⟨some 17, .idx 1 (.t 15) (.t 16), none, none, []⟩,
       ⟨some 18, .load 1 false (.t 17), none, none, []⟩,
       ⟨some 19, .mv (.t 6), none, none, []⟩,
       ⟨some 20, .bin 0 .sub (.t 18) (.t 19), none, none, []⟩,
       ⟨some 8, .mv (.t 20), none, none, []⟩] false [0, 1, 5, 7, 8] [6]) (
    .seq (
     .seq (
      .reg [⟨some 21, .mv (.t 7), none, none, []⟩,
        ⟨some 22, .mv (.t 1), none, none, []⟩,
        ⟨some 23, .len false (.t 22), none, none, []⟩,
        ⟨some 24, .bin 0 .lss (.t 21) (.t 23), none, none, []⟩] false [0, 1, 5, 7, 8, 24] [6]) (
     .cond (.t 24) (
      .reg [⟨some 25, .mv (.t 8), none, none, []⟩,
        ⟨some 26, .mv (.t 1), none, none, []⟩,
        ⟨some 27, .mv (.t 7), none, none, []⟩,
        ⟨some 28, .idx 1 (.t 26) (.t 27), none, none, []⟩,
        ⟨some 29, .load 1 false (.t 28), none, none, []⟩,
        ⟨some 30, .bin 0 .sub (.t 25) (.t 29), none, none, []⟩,
        ⟨some 8, .mv (.t 30), none, none, []⟩] false [0, 1, 5, 7, 8] [6]) (
      .skip))) T_ref01_less_1))) T_ref01_less_2
def B_ref01_less_4 : PCode :=
  .seq (
   .seq (
    .reg [⟨some 9, .mv (.t 7), none, none, []⟩,
      ⟨some 10, .mv (.t 0), none, none, []⟩,
      ⟨some 11, .len false (.t 10), none, none, []⟩,
      ⟨some 12, .bin 0 .lss (.t 9) (.t 11), none, none, []⟩] false [0, 1, 5, 6, 7, 12] [6]) (
   .cond (.t 12) (
    .skip) (
    .exit 0))) T_ref01_less_3
def T_ref01_less_5 : PCode :=
  .seq (
   .reg [⟨some 39, .mv (.t 5), none, none, []⟩,
     ⟨some 4, .mv (.t 39), none, none, []⟩] false [4] [5, 6]) (
  .ret)
def C_ref01_less : PCode :=
  .seq (
   .reg [⟨some 4, .nils 5 1, none, none, []⟩] false [0, 1] []) (
  .seq (
   .reg [⟨some 5, .nils 6 1, none, none, []⟩] false [0, 1, 5] [6]) (
  .seq (
   .reg [⟨some 6, .mv (.c (.int .i64 0)), none, none, []⟩] false [0, 1, 5, 6] [6]) (
  .seq (
   .seq (
    .reg [⟨some 7, .mv (.c (.int .i64 0)), none, none, []⟩] false [0, 1, 5, 6, 7] [6]) (
   .block 0 (
    .loop B_ref01_less_4))) T_ref01_less_5)))
def D_ref01_less : PFunc := ⟨2, [.tmp 4], false, C_ref01_less⟩
abbrev F_ref01_less : Nat := 79

/-- math/bits.LeadingZeros32 -/
def C_math_bits_LeadingZeros32 : PCode :=
  .seq (
   .reg [⟨some 2, .mv (.c (.int .i64 0)), none, none, []⟩] false [0] []) (
  .seq (
   .reg [⟨some 3, .mv (.t 0), none, none, []⟩,
     ⟨some 4, .call (.c (.fn 83 [])) [.t 3] none none, none, none, []⟩,
     ⟨some 5, .bin 0 .sub (.c (.int .i64 32)) (.t 4), none, none, []⟩,
     ⟨some 2, .mv (.t 5), none, none, []⟩] false [2] []) (
  .ret))
def D_math_bits_LeadingZeros32 : PFunc := ⟨1, [.tmp 2], false, C_math_bits_LeadingZeros32⟩
abbrev F_math_bits_LeadingZeros32 : Nat := 80

/-- gimbal/long.shifted -/
def T_long_shifted_0 : PCode :=
  .seq (
   .block 1 (
    .seq (
     .reg [⟨some 17, .mv (.t 15), none, none, []⟩,
       ⟨some 18, .idx 1 (.t 13) (.t 15), none, none, []⟩,
       ⟨some 19, .load 1 false (.t 18), none, none, []⟩,
       ⟨some 6, .mv (.t 17), none, none, []⟩,
       ⟨some 7, .mv (.t 19), none, none, []⟩] false [1, 5, 6, 7, 13, 14, 15] [13]) (
    .seq (
     .reg [⟨some 20, .mv (.t 7), none, none, []⟩,
       ⟨some 21, .conv .u64 (.t 20), none, none, []⟩,
       ⟨some 22, .mv (.t 1), none, none, []⟩,
       ⟨some 23, .bin 0 .shl (.t 21) (.t 22), none, none, []⟩,
       ⟨some 8, .mv (.t 23), none, none, []⟩] false [1, 5, 6, 8, 13, 14, 15] [13]) (
    .seq (
     .reg [⟨some 24, .mv (.t 5), none, none, []⟩,
       ⟨some 25, .mv (.t 6), none, none, []⟩,
       ⟨some 26, .idx 1 (.t 24) (.t 25), none, none, []⟩,
       ⟨some 27, .load 1 false (.t 26), none, none, []⟩,
       ⟨some 28, .mv (.t 8), none, none, []⟩,
       ⟨some 29, .conv .u32 (.t 28), none, none, []⟩,
       ⟨some 30, .bin 0 .or (.t 27) (.t 29), none, none, []⟩,
       ⟨some 31, .idx 1 (.t 24) (.t 25), none, none, []⟩,
       ⟨none, .store 1 (.t 31) (.t 30), none, none, []⟩] false [1, 5, 6, 8, 13, 14, 15] [13]) (
    .reg [⟨some 32, .mv (.t 5), none, none, []⟩,
      ⟨some 33, .mv (.t 6), none, none, []⟩,
      ⟨some 34, .bin 0 .add (.t 33) (.c (.int .i64 1)), none, none, []⟩,
      ⟨some 35, .idx 1 (.t 32) (.t 34), none, none, []⟩,
      ⟨some 36, .load 1 false (.t 35), none, none, []⟩,
      ⟨some 37, .mv (.t 8), none, none, []⟩,
      ⟨some 38, .bin 0 .shr (.t 37) (.c (.int .u64 32)), none, none, []⟩,
      ⟨some 39, .conv .u32 (.t 38), none, none, []⟩,
      ⟨some 40, .bin 0 .or (.t 36) (.t 39), none, none, []⟩,
      ⟨some 41, .idx 1 (.t 32) (.t 34), none, none, []⟩,
      ⟨none, .store 1 (.t 41) (.t 40), none, none, []⟩] false [1, 5, 13, 14, 15] [13]))))) (
  .reg [⟨some 42, .bin 0 .add (.t 15) (.c (.int .i64 1)), none, none, []⟩,
    ⟨some 15, .mv (.t 42), none, none, []⟩] false [1, 5, 13, 14, 15] [13])
def B_long_shifted_1 : PCode :=
  .seq (
   .reg [⟨some 16, .bin 0 .lss (.t 15) (.t 14), none, none, []⟩] false [1, 5, 13, 14, 15, 16] [13]) (
  .seq (
   .cond (.t 16) (
    .skip) (
    .exit 0)) T_long_shifted_0)
def T_long_shifted_2 : PCode :=
  .seq (
   .reg [⟨some 43, .mv (.t 5), none, none, []⟩,
     ⟨some 4, .mv (.t 43), none, none, []⟩] false [4] [5, 13]) (
  .ret)
def C_long_shifted : PCode :=
  .seq (
   .reg [⟨some 4, .nils 5 1, none, none, []⟩] false [0, 1] []) (
  .seq (
   .reg [⟨some 9, .mv (.t 0), none, none, []⟩,
     ⟨some 10, .len false (.t 9), none, none, []⟩,
     ⟨some 11, .bin 0 .add (.t 10) (.c (.int .i64 1)), none, none, []⟩,
     ⟨some 12, .make 13 [.int .u32 0] 4 (.t 11) (.t 11), none, none, []⟩,
     ⟨some 5, .mv (.t 12), none, none, []⟩] false [0, 1, 5] [13]) (
  .seq (
   .seq (
    .reg [⟨some 13, .mv (.t 0), none, none, []⟩,
      ⟨some 14, .len false (.t 13), none, none, []⟩,
      ⟨some 15, .mv (.c (.int .i64 0)), none, none, []⟩] false [1, 5, 13, 14, 15] [13]) (
   .block 0 (
    .loop B_long_shifted_1))) T_long_shifted_2))
def D_long_shifted : PFunc := ⟨2, [.tmp 4], true, C_long_shifted⟩
abbrev F_long_shifted : Nat := 81

/-- gimbal/long.long -/
def T_long_long_0 : PCode :=
  .block 3 (
   .reg [⟨some 64, .mv (.t 9), none, none, []⟩,
     ⟨some 65, .bin 0 .sub (.t 64) (.c (.int .u64 1)), none, none, []⟩,
     ⟨some 9, .mv (.t 65), none, none, []⟩] false [0, 1, 5, 6, 7, 9] [0, 18])
def B_long_long_1 : PCode :=
  .seq (
   .seq (
    .reg [⟨some 53, .mv (.t 0), none, none, []⟩,
      ⟨some 54, .mv (.t 7), none, none, []⟩,
      ⟨some 55, .mv (.t 7), none, none, []⟩,
      ⟨some 56, .mv (.t 5), none, none, []⟩,
      ⟨some 57, .bin 0 .add (.t 55) (.t 56), none, none, []⟩,
      ⟨some 58, .bin 0 .add (.t 57) (.c (.int .i64 1)), none, none, []⟩,
      ⟨some 59, .slice false 1 (.t 53) (some (.t 54)) (some (.t 58)) none, none, none, []⟩,
      ⟨some 60, .mv (.t 1), none, none, []⟩,
      ⟨some 61, .mv (.t 9), none, none, []⟩,
      ⟨some 62, .conv .u32 (.t 61), none, none, []⟩,
      ⟨some 63, .call (.c (.fn 84 [])) [.t 59, .t 60, .t 62] (some 0) none, none, none, []⟩] false [0, 1, 5, 6, 7, 9, 63] [0, 18]) (
   .cond (.t 63) (
    .skip) (
    .exit 2))) T_long_long_0
def T_long_long_2 : PCode :=
  .reg [⟨some 66, .mv (.t 6), none, none, []⟩,
    ⟨some 67, .mv (.t 7), none, none, []⟩,
    ⟨some 68, .mv (.t 9), none, none, []⟩,
    ⟨some 69, .conv .u32 (.t 68), none, none, []⟩,
    ⟨some 70, .idx 1 (.t 66) (.t 67), none, none, []⟩,
    ⟨none, .store 1 (.t 70) (.t 69), none, none, []⟩] false [0, 1, 5, 6, 7] [0, 18]
def T_long_long_3 : PCode :=
  .reg [⟨some 25, .mv (.t 7), none, none, []⟩,
    ⟨some 26, .bin 0 .sub (.t 25) (.c (.int .i64 1)), none, none, []⟩,
    ⟨some 7, .mv (.t 26), none, none, []⟩] false [0, 1, 5, 6, 7] [0, 18]
def T_long_long_4 : PCode :=
  .seq (
   .block 1 (
    .seq (
     .reg [⟨some 27, .mv (.t 0), none, none, []⟩,
       ⟨some 28, .mv (.t 7), none, none, []⟩,
       ⟨some 29, .mv (.t 5), none, none, []⟩,
       ⟨some 30, .bin 0 .add (.t 28) (.t 29), none, none, []⟩,
       ⟨some 31, .idx 1 (.t 27) (.t 30), none, none, []⟩,
       ⟨some 32, .load 1 false (.t 31), none, none, []⟩,
       ⟨some 33, .conv .u64 (.t 32), none, none, []⟩,
       ⟨some 34, .bin 0 .shl (.t 33) (.c (.int .u64 32)), none, none, []⟩,
       ⟨some 35, .mv (.t 0), none, none, []⟩,
       ⟨some 36, .mv (.t 7), none, none, []⟩,
       ⟨some 37, .mv (.t 5), none, none, []⟩,
       ⟨some 38, .bin 0 .add (.t 36) (.t 37), none, none, []⟩,
       ⟨some 39, .bin 0 .sub (.t 38) (.c (.int .i64 1)), none, none, []⟩,
       ⟨some 40, .idx 1 (.t 35) (.t 39), none, none, []⟩,
       ⟨some 41, .load 1 false (.t 40), none, none, []⟩,
       ⟨some 42, .conv .u64 (.t 41), none, none, []⟩,
       ⟨some 43, .bin 0 .or (.t 34) (.t 42), none, none, []⟩,
       ⟨some 8, .mv (.t 43), none, none, []⟩] true [0, 1, 5, 6, 7, 8] [0, 18]) (
    .seq (
     .reg [⟨some 44, .mv (.t 8), none, none, []⟩,
       ⟨some 45, .mv (.t 1), none, none, []⟩,
       ⟨some 46, .mv (.t 5), none, none, []⟩,
       ⟨some 47, .bin 0 .sub (.t 46) (.c (.int .i64 1)), none, none, []⟩,
       ⟨some 48, .idx 1 (.t 45) (.t 47), none, none, []⟩,
       ⟨some 49, .load 1 false (.t 48), none, none, []⟩,
       ⟨some 50, .conv .u64 (.t 49), none, none, []⟩,
       ⟨some 51, .bin 0 .quo (.t 44) (.t 50), none, none, []⟩,
       ⟨some 52, .mm false [.t 51, .c (.int .u64 4294967295)], none, none, []⟩,
       ⟨some 9, .mv (.t 52), none, none, []⟩] false [0, 1, 5, 6, 7, 9] [0, 18]) (
    .seq (
     .block 2 (
      .loop B_long_long_1)) T_long_long_2)))) T_long_long_3
def B_long_long_5 : PCode :=
  .seq (
   .seq (
    .reg [⟨some 23, .mv (.t 7), none, none, []⟩,
      ⟨some 24, .bin 0 .geq (.t 23) (.c (.int .i64 0)), none, none, []⟩] false [0, 1, 5, 6, 7, 24] [0, 18]) (
   .cond (.t 24) (
    .skip) (
    .exit 0))) T_long_long_4
def T_long_long_6 : PCode :=
  .seq (
   .reg [⟨some 71, .mv (.t 6), none, none, []⟩,
     ⟨some 4, .mv (.t 71), none, none, []⟩] false [4] [0, 5, 18]) (
  .ret)
def C_long_long : PCode :=
  .seq (
   .reg [⟨some 4, .nils 5 1, none, none, []⟩] false [0, 1] [0]) (
  .seq (
   .reg [⟨some 10, .mv (.t 1), none, none, []⟩,
     ⟨some 11, .len false (.t 10), none, none, []⟩,
     ⟨some 5, .mv (.t 11), none, none, []⟩] false [0, 1, 5] [0]) (
  .seq (
   .reg [⟨some 12, .mv (.t 0), none, none, []⟩,
     ⟨some 13, .len false (.t 12), none, none, []⟩,
     ⟨some 14, .mv (.t 5), none, none, []⟩,
     ⟨some 15, .bin 0 .sub (.t 13) (.t 14), none, none, []⟩,
     ⟨some 16, .mm true [.c (.int .i64 0), .t 15], none, none, []⟩,
     ⟨some 17, .make 18 [.int .u32 0] 4 (.t 16) (.t 16), none, none, []⟩,
     ⟨some 6, .mv (.t 17), none, none, []⟩] false [0, 1, 5, 6] [0, 18]) (
  .seq (
   .seq (
    .reg [⟨some 18, .mv (.t 0), none, none, []⟩,
      ⟨some 19, .len false (.t 18), none, none, []⟩,
      ⟨some 20, .mv (.t 5), none, none, []⟩,
      ⟨some 21, .bin 0 .sub (.t 19) (.t 20), none, none, []⟩,
      ⟨some 22, .bin 0 .sub (.t 21) (.c (.int .i64 1)), none, none, []⟩,
      ⟨some 7, .mv (.t 22), none, none, []⟩] false [0, 1, 5, 6, 7] [0, 18]) (
   .block 0 (
    .loop B_long_long_5))) T_long_long_6)))
def D_long_long : PFunc := ⟨2, [.tmp 4], false, C_long_long⟩
abbrev F_long_long : Nat := 82
def K_math_bits_Len32_0 : List Nat := [0, 1, 2, 2, 3, 3, 3, 3, 4, 4, 4, 4, 4, 4, 4, 4, 5, 5, 5, 5, 5, 5, 5, 5, 5, 5, 5, 5, 5, 5, 5, 5, 6, 6, 6, 6, 6, 6, 6, 6, 6, 6, 6, 6, 6, 6, 6, 6, 6, 6, 6, 6, 6, 6, 6, 6, 6, 6, 6, 6, 6, 6, 6, 6, 7, 7, 7, 7, 7, 7, 7, 7, 7, 7, 7, 7, 7, 7, 7, 7, 7, 7, 7, 7, 7, 7, 7, 7, 7, 7, 7, 7, 7, 7, 7, 7, 7, 7, 7, 7, 7, 7, 7, 7, 7, 7, 7, 7, 7, 7, 7, 7, 7, 7, 7, 7, 7, 7, 7, 7, 7, 7, 7, 7, 7, 7, 7, 7, 8, 8, 8, 8, 8, 8, 8, 8, 8, 8, 8, 8, 8, 8, 8, 8, 8, 8, 8, 8, 8, 8, 8, 8, 8, 8, 8, 8, 8, 8, 8, 8, 8, 8, 8, 8, 8, 8, 8, 8, 8, 8, 8, 8, 8, 8, 8, 8, 8, 8, 8, 8, 8, 8, 8, 8, 8, 8, 8, 8, 8, 8, 8, 8, 8, 8, 8, 8, 8, 8, 8, 8, 8, 8, 8, 8, 8, 8, 8, 8, 8, 8, 8, 8, 8, 8, 8, 8, 8, 8, 8, 8, 8, 8, 8, 8, 8, 8, 8, 8, 8, 8, 8, 8, 8, 8, 8, 8, 8, 8, 8, 8, 8, 8, 8, 8, 8, 8, 8, 8, 8, 8, 8, 8, 8, 8, 8, 8]

/-- math/bits.Len32 -/
def T_math_bits_Len32_0 : PCode :=
  .seq (
   .reg [⟨some 13, .mv (.t 2), none, none, []⟩,
     ⟨some 14, .mv (.t 0), none, none, []⟩,
     ⟨some 15, .conv .u8 (.t 14), none, none, []⟩,
     ⟨some 16, .sidx (.c (.str K_math_bits_Len32_0)) (.t 15), none, none, []⟩,
     ⟨some 17, .conv .i64 (.t 16), none, none, []⟩,
     ⟨some 18, .bin 0 .add (.t 13) (.t 17), none, none, []⟩,
     ⟨some 2, .mv (.t 18), none, none, []⟩] false [2] []) (
  .ret)
def T_math_bits_Len32_1 : PCode :=
  .seq (
   .seq (
    .reg [⟨some 7, .mv (.t 0), none, none, []⟩,
      ⟨some 8, .bin 0 .geq (.t 7) (.c (.int .u32 256)), none, none, []⟩] false [0, 2, 8] []) (
   .cond (.t 8) (
    .seq (
     .reg [⟨some 9, .mv (.t 0), none, none, []⟩,
       ⟨some 10, .bin 0 .shr (.t 9) (.c (.int .u64 8)), none, none, []⟩,
       ⟨some 0, .mv (.t 10), none, none, []⟩] false [0, 2] []) (
    .reg [⟨some 11, .mv (.t 2), none, none, []⟩,
      ⟨some 12, .bin 0 .add (.t 11) (.c (.int .i64 8)), none, none, []⟩,
      ⟨some 2, .mv (.t 12), none, none, []⟩] false [0, 2] [])) (
    .skip))) T_math_bits_Len32_0
def C_math_bits_Len32 : PCode :=
  .seq (
   .reg [⟨some 2, .mv (.c (.int .i64 0)), none, none, []⟩] false [0, 2] []) (
  .seq (
   .seq (
    .reg [⟨some 3, .mv (.t 0), none, none, []⟩,
      ⟨some 4, .bin 0 .geq (.t 3) (.c (.int .u32 65536)), none, none, []⟩] false [0, 2, 4] []) (
   .cond (.t 4) (
    .seq (
     .reg [⟨some 5, .mv (.t 0), none, none, []⟩,
       ⟨some 6, .bin 0 .shr (.t 5) (.c (.int .u64 16)), none, none, []⟩,
       ⟨some 0, .mv (.t 6), none, none, []⟩] false [0] []) (
    .reg [⟨some 2, .mv (.c (.int .i64 16)), none, none, []⟩] false [0, 2] [])) (
    .skip))) T_math_bits_Len32_1)
def D_math_bits_Len32 : PFunc := ⟨1, [.tmp 2], false, C_math_bits_Len32⟩
abbrev F_math_bits_Len32 : Nat := 83

/-- gimbal/long.takes -/
def T_long_takes_0 : PCode :=
  .seq (
   .block 1 (
    .seq (
     .reg [⟨some 19, .mv (.t 17), none, none, []⟩,
       ⟨some 9, .mv (.t 19), none, none, []⟩] false [0, 2, 7, 8, 9, 16, 17] [0, 13, 15]) (
    .seq (
     .reg [⟨some 20, .mv (.t 8), none, none, []⟩,
       ⟨some 21, .mv (.t 7), none, none, []⟩,
       ⟨some 22, .mv (.t 9), none, none, []⟩,
       ⟨some 23, .idx 1 (.t 21) (.t 22), none, none, []⟩,
       ⟨some 24, .load 1 false (.t 23), none, none, []⟩,
       ⟨some 25, .conv .u64 (.t 24), none, none, []⟩,
       ⟨some 26, .mv (.t 2), none, none, []⟩,
       ⟨some 27, .conv .u64 (.t 26), none, none, []⟩,
       ⟨some 28, .bin 0 .mul (.t 25) (.t 27), none, none, []⟩,
       ⟨some 29, .bin 0 .add (.t 20) (.t 28), none, none, []⟩,
       ⟨some 8, .mv (.t 29), none, none, []⟩] false [0, 2, 7, 8, 9, 16, 17] [0, 13, 15]) (
    .seq (
     .reg [⟨some 30, .mv (.t 7), none, none, []⟩,
       ⟨some 31, .mv (.t 9), none, none, []⟩,
       ⟨some 32, .mv (.t 8), none, none, []⟩,
       ⟨some 33, .conv .u32 (.t 32), none, none, []⟩,
       ⟨some 34, .idx 1 (.t 30) (.t 31), none, none, []⟩,
       ⟨none, .store 1 (.t 34) (.t 33), none, none, []⟩] false [0, 2, 7, 8, 16, 17] [0, 13, 15]) (
    .reg [⟨some 35, .mv (.t 8), none, none, []⟩,
      ⟨some 36, .bin 0 .shr (.t 35) (.c (.int .u64 32)), none, none, []⟩,
      ⟨some 8, .mv (.t 36), none, none, []⟩] false [0, 2, 7, 8, 16, 17] [0, 13, 15]))))) (
  .reg [⟨some 37, .bin 0 .add (.t 17) (.c (.int .i64 1)), none, none, []⟩,
    ⟨some 17, .mv (.t 37), none, none, []⟩] false [0, 2, 7, 8, 16, 17] [0, 13, 15])
def B_long_takes_1 : PCode :=
  .seq (
   .reg [⟨some 18, .bin 0 .lss (.t 17) (.t 16), none, none, []⟩] false [0, 2, 7, 8, 16, 17, 18] [0, 13, 15]) (
  .seq (
   .cond (.t 18) (
    .skip) (
    .exit 0)) T_long_takes_0)
def T_long_takes_2 : PCode :=
  .reg [⟨some 54, .mv (.t 10), none, none, []⟩,
    ⟨some 55, .bin 0 .sub (.t 54) (.c (.int .i64 1)), none, none, []⟩,
    ⟨some 10, .mv (.t 55), none, none, []⟩] false [0, 7, 10] [0, 13, 15]
def T_long_takes_3 : PCode :=
  .seq (
   .block 3 (
    .seq (
     .reg [⟨some 56, .mv (.t 0), none, none, []⟩,
       ⟨some 57, .mv (.t 10), none, none, []⟩,
       ⟨some 58, .idx 1 (.t 56) (.t 57), none, none, []⟩,
       ⟨some 59, .load 1 false (.t 58), none, none, []⟩,
       ⟨some 60, .mv (.t 7), none, none, []⟩,
       ⟨some 61, .mv (.t 10), none, none, []⟩,
       ⟨some 62, .idx 1 (.t 60) (.t 61), none, none, []⟩,
       ⟨some 63, .load 1 false (.t 62), none, none, []⟩,
       ⟨some 64, .bin 0 .lss (.t 59) (.t 63), none, none, []⟩] true [0, 7, 10, 64] [0, 13, 15]) (
    .cond (.t 64) (
     .seq (
      .reg [⟨some 6, .mv (.c (.bool true)), none, none, []⟩] false [6] [0]) (
     .ret)) (
     .skip)))) T_long_takes_2
def B_long_takes_4 : PCode :=
  .seq (
   .seq (
    .reg [⟨some 41, .mv (.t 10), none, none, []⟩,
      ⟨some 42, .bin 0 .geq (.t 41) (.c (.int .i64 0)), none, none, []⟩,
      ⟨some 43, .mv (.t 42), none, none, []⟩,
      ⟨some 44, .mv (.t 0), (some (43, true)), none, []⟩,
      ⟨some 45, .mv (.t 10), (some (43, true)), none, []⟩,
      ⟨some 46, .idx 1 (.t 44) (.t 45), (some (43, true)), none, []⟩,
      ⟨some 47, .load 1 false (.t 46), (some (43, true)), none, []⟩,
      ⟨some 48, .mv (.t 7), (some (43, true)), none, []⟩,
      ⟨some 49, .mv (.t 10), (some (43, true)), none, []⟩,
      ⟨some 50, .idx 1 (.t 48) (.t 49), (some (43, true)), none, []⟩,
      ⟨some 51, .load 1 false (.t 50), (some (43, true)), none, []⟩,
      ⟨some 52, .bin 0 .leq (.t 47) (.t 51), (some (43, true)), none, []⟩,
      ⟨some 53, .pick (.t 43) (.t 52) (.c (.bool false)), none, none, []⟩] true [0, 7, 10, 53] [0, 13, 15]) (
   .cond (.t 53) (
    .skip) (
    .exit 2))) T_long_takes_3
def T_long_takes_5 : PCode :=
  .seq (
   .reg [⟨some 65, .mv (.t 0), none, none, []⟩,
     ⟨some 66, .mv (.t 0), none, none, []⟩,
     ⟨some 67, .mv (.t 7), none, none, []⟩,
     ⟨some 68, .call (.c (.fn 62 [])) [.t 66, .t 67] (some 0) none, none, none, []⟩,
     ⟨some 69, .copy 1 (.t 65) (.t 68), none, none, []⟩] false [] [0]) (
  .seq (
   .reg [⟨some 6, .mv (.c (.bool false)), none, none, []⟩] false [6] [0]) (
  .ret))
def T_long_takes_6 : PCode :=
  .seq (
   .seq (
    .reg [⟨some 38, .mv (.t 7), none, none, []⟩,
      ⟨some 39, .len false (.t 38), none, none, []⟩,
      ⟨some 40, .bin 0 .sub (.t 39) (.c (.int .i64 1)), none, none, []⟩,
      ⟨some 10, .mv (.t 40), none, none, []⟩] false [0, 7, 10] [0, 13, 15]) (
   .block 2 (
    .loop B_long_takes_4))) T_long_takes_5
def C_long_takes : PCode :=
  .seq (
   .reg [⟨some 6, .mv (.c (.bool false)), none, none, []⟩] false [0, 1, 2] [0]) (
  .seq (
   .reg [⟨some 11, .mv (.t 1), none, none, []⟩,
     ⟨some 12, .call (.c (.fn 76 [])) [.t 11] none (some 13), none, none, []⟩,
     ⟨some 13, .lits 14 1 1 [.c (.int .u32 0)], none, none, []⟩,
     ⟨some 14, .app 15 1 4 (.t 12) (.t 13), none, none, []⟩,
     ⟨some 7, .mv (.t 14), none, none, []⟩] false [0, 2, 7] [0, 13, 15]) (
  .seq (
   .reg [⟨some 8, .mv (.c (.int .u64 0)), none, none, []⟩] false [0, 2, 7, 8] [0, 13, 15]) (
  .seq (
   .seq (
    .reg [⟨some 15, .mv (.t 7), none, none, []⟩,
      ⟨some 16, .len false (.t 15), none, none, []⟩,
      ⟨some 17, .mv (.c (.int .i64 0)), none, none, []⟩] false [0, 2, 7, 8, 16, 17] [0, 13, 15]) (
   .block 0 (
    .loop B_long_takes_1))) T_long_takes_6)))
def D_long_takes : PFunc := ⟨3, [.tmp 6], false, C_long_takes⟩
abbrev F_long_takes : Nat := 84

def tab : Nat → Option PFunc
  | 3 => some D_law07_LinBack
  | 4 => some D_law07_LinReckons
  | 5 => some D_law07_LinRules
  | 6 => some D_law07_LinDefinite
  | 7 => some D_law07_awake
  | 8 => some D_law07_read
  | 9 => some D_law07_list
  | 10 => some D_lin_Mat_Solve
  | 11 => some D_lin_Mat_Det
  | 12 => some D_long_Int_Sign
  | 13 => some D_lin_Mat_Apply
  | 14 => some D_long_Int_Cmp
  | 15 => some D_long_Int_Mul
  | 16 => some D_law07_whole
  | 17 => some D_lin_Mat_Mul
  | 18 => some D_lin_Mat_Turned
  | 19 => some D_law07_text
  | 20 => some D_lin_Mat_Quad
  | 21 => some D_long_Int_String
  | 22 => some D_lin_Mat_Definite
  | 23 => some D_law07_wholes
  | 24 => some D_ref07_Mat_Mul
  | 25 => some D_ref07_Mat_Turned
  | 26 => some D_law07_texts
  | 27 => some D_ref07_Mat_Apply
  | 28 => some D_ref07_Mat_Quad
  | 29 => some D_ref01_Int_String
  | 30 => some D_ref07_Mat_Definite
  | 31 => some D_long_Int_Add
  | 32 => some D_long_Of
  | 33 => some D_long_Int_Neg
  | 34 => some D_lin_Of
  | 35 => some D_law07_square
  | 36 => some D_ref07_Of
  | 37 => some D_ref01_Of
  | 38 => some D_lin_Mat_swept
  | 39 => some D_lin_list_long_Int
  | 40 => some D_lin_Mat_Solve_1
  | 41 => some D_lin_turned
  | 42 => some D_lin_zeros
  | 43 => some D_lin_Mat_Apply_1
  | 44 => some D_lin_sum
  | 45 => some D_lin_Mat_Apply_1_1
  | 46 => some D_long_Int_Sub
  | 47 => some D_long_made
  | 48 => some D_lin_made
  | 49 => some D_lin_Mat_Mul_1
  | 50 => some D_lin_Mat_Mul_1_1
  | 51 => some D_lin_Mat_Turned_1
  | 52 => some D_lin_Mat_Quad_1
  | 53 => some D_long_by
  | 54 => some D_slices_Reverse_Sbyte_byte
  | 55 => some D_lin_Mat_Definite_1
  | 56 => some D_ref07_Dot
  | 57 => some D_ref01_Int_Cmp
  | 58 => some D_ref07_Mat_Det
  | 59 => some D_ref01_Int_Sign
  | 60 => some D_long_plus
  | 61 => some D_long_cmp
  | 62 => some D_long_less
  | 63 => some D_lin_Of_1
  | 64 => some D_ref01_made
  | 65 => some D_lin_list_Slong_Int
  | 66 => some D_lin_Mat_swept_1
  | 67 => some D_lin_Mat_swept_1_1
  | 68 => some D_long_Int_Quo
  | 69 => some D_lin_made_1
  | 70 => some D_lin_made_1_1
  | 71 => some D_ref01_Int_Add
  | 72 => some D_ref01_Int_Mul
  | 73 => some D_ref01_size
  | 74 => some D_ref07_without
  | 75 => some D_ref01_Int_Minus
  | 76 => some D_slices_Clone_Suint32_uint32
  | 77 => some D_long_parted
  | 78 => some D_ref01_plus
  | 79 => some D_ref01_less
  | 80 => some D_math_bits_LeadingZeros32
  | 81 => some D_long_shifted
  | 82 => some D_long_long
  | 83 => some D_math_bits_Len32
  | 84 => some D_long_takes
  | _ => none
end Go.Proofs.Ytbdknlejnacmgaa.Pi
