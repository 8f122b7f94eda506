/- The functions of this seat as the abstract machine has them; written by program. -/
import Derived.Test.YthbkdnojneffdaaAmStep
import Derived.Test.YthbkdnojneffdaaProg
import Derived.KernelRfl
namespace Go.Proofs.Ythbkdnojneffdaa
open Go.Am

/-- semvcs/semvcslaw12.CellsValid -/
def a3 : AFn := ⟨
 ACode.seq (
  ACode.reg false [⟨some 2, .mov (.c (.v (.bool false))), none, []⟩]) (
 ACode.seq (
  ACode.seq (
   ACode.reg false [⟨some 3, .mov (.t 0), none, []⟩,
     ⟨some 4, .call 9 [(.t 3), (.c (.nils))], none, [0]⟩,
     ⟨some 5, .un .not (.t 4), none, [1]⟩]) (
  ACode.cond (.t 5) (
   ACode.seq (
    ACode.reg false [⟨some 6, .call 10 [], none, []⟩,
      ⟨some 2, .mov (.t 6), none, [0, 0, 0]⟩]) (
   ACode.ret)) (
   ACode.skip))) (
 ACode.seq (
  ACode.reg false [⟨some 7, .call 10 [], none, []⟩,
    ⟨some 8, .mov (.t 7), none, [0, 0]⟩,
    ⟨some 9, .mov (.t 0), some (8, true), [1]⟩,
    ⟨some 10, .call 11 [(.t 9)], some (8, true), [2, 1, 1]⟩,
    ⟨some 11, .mov (.t 0), some (8, true), [1]⟩,
    ⟨some 12, .call 12 [(.t 11)], some (8, true), [4, 3, 1]⟩,
    ⟨some 13, .eqb false (.t 10) (.t 12), some (8, true), [3, 5, 1]⟩,
    ⟨some 14, .pick (.t 8) (.t 13) (.c (.v (.bool false))), none, [1, 6]⟩,
    ⟨some 15, .mov (.t 14), none, [7, 5]⟩,
    ⟨some 16, .mov (.t 0), some (15, true), [8]⟩,
    ⟨some 17, .call 13 [(.t 16)], some (15, true), [9, 8, 8]⟩,
    ⟨some 18, .mov (.t 0), some (15, true), [8]⟩,
    ⟨some 19, .call 14 [(.t 18)], some (15, true), [11, 10, 8]⟩,
    ⟨some 20, .eqb false (.t 17) (.t 19), some (15, true), [10, 12, 8]⟩,
    ⟨some 21, .pick (.t 15) (.t 20) (.c (.v (.bool false))), none, [8, 13]⟩,
    ⟨some 2, .mov (.t 21), none, [14, 12, 0, 1, 2, 3, 4, 5, 6, 7, 8, 9, 10, 11, 12, 13, 14]⟩]) (
 ACode.ret))),
 [.tmp 2], 22⟩

/-- semvcs/semvcslaw12.CellsPuts -/
def a4 : AFn := ⟨
 ACode.seq (
  ACode.reg false [⟨some 4, .mov (.c (.v (.bool false))), none, []⟩]) (
 ACode.seq (
  ACode.seq (
   ACode.reg false [⟨some 5, .mov (.t 0), none, []⟩,
     ⟨some 6, .mov (.t 1), none, []⟩,
     ⟨some 7, .call 9 [(.t 5), (.t 6)], none, [0, 1]⟩,
     ⟨some 8, .un .not (.t 7), none, [2]⟩]) (
  ACode.cond (.t 8) (
   ACode.seq (
    ACode.reg false [⟨some 9, .call 10 [], none, []⟩,
      ⟨some 4, .mov (.t 9), none, [0, 0, 0]⟩]) (
   ACode.ret)) (
   ACode.skip))) (
 ACode.seq (
  ACode.reg false [⟨some 10, .call 10 [], none, []⟩,
    ⟨some 11, .mov (.t 10), none, [0, 0]⟩,
    ⟨some 12, .mov (.t 0), some (11, true), [1]⟩,
    ⟨some 13, .mov (.t 1), some (11, true), [1]⟩,
    ⟨some 14, .call 16 [(.t 12), (.t 13)], some (11, true), [2, 3, 1, 1]⟩,
    ⟨some 15, .mov (.t 0), some (11, true), [1]⟩,
    ⟨some 16, .mov (.t 1), some (11, true), [1]⟩,
    ⟨some 17, .call 17 [(.t 15), (.t 16)], some (11, true), [5, 6, 4, 1]⟩,
    ⟨some 18, .call 15 [(.t 14), (.t 17)], some (11, true), [4, 7, 7, 1]⟩,
    ⟨some 19, .pick (.t 11) (.t 18) (.c (.v (.bool false))), none, [1, 8]⟩,
    ⟨some 20, .mov (.t 19), none, [9, 8]⟩,
    ⟨some 21, .mov (.t 0), some (20, true), [10]⟩,
    ⟨some 22, .mov (.t 1), some (20, true), [10]⟩,
    ⟨some 23, .call 18 [(.t 21), (.t 22)], some (20, true), [11, 12, 10, 10]⟩,
    ⟨some 24, .mov (.t 0), some (20, true), [10]⟩,
    ⟨some 25, .mov (.t 1), some (20, true), [10]⟩,
    ⟨some 26, .call 19 [(.t 24), (.t 25)], some (20, true), [14, 15, 13, 10]⟩,
    ⟨some 27, .call 15 [(.t 23), (.t 26)], some (20, true), [13, 16, 16, 10]⟩,
    ⟨some 28, .pick (.t 20) (.t 27) (.c (.v (.bool false))), none, [10, 17]⟩,
    ⟨some 29, .mov (.t 28), none, [18, 17]⟩,
    ⟨some 30, .mov (.t 1), some (29, true), [19]⟩,
    ⟨some 31, .mov (.t 0), some (29, true), [19]⟩,
    ⟨some 32, .call 18 [(.t 30), (.t 31)], some (29, true), [20, 21, 19, 19]⟩,
    ⟨some 33, .mov (.t 1), some (29, true), [19]⟩,
    ⟨some 34, .mov (.t 0), some (29, true), [19]⟩,
    ⟨some 35, .call 19 [(.t 33), (.t 34)], some (29, true), [23, 24, 22, 19]⟩,
    ⟨some 36, .call 15 [(.t 32), (.t 35)], some (29, true), [22, 25, 25, 19]⟩,
    ⟨some 37, .pick (.t 29) (.t 36) (.c (.v (.bool false))), none, [19, 26]⟩,
    ⟨some 4, .mov (.t 37), none, [27, 26, 0, 1, 2, 3, 4, 5, 6, 7, 8, 9, 10, 11, 12, 13, 14, 15, 16, 17, 18, 19, 20, 21, 22, 23, 24, 25, 26, 27]⟩]) (
 ACode.ret))),
 [.tmp 4], 38⟩

/-- semvcs/semvcslaw12.CellsBack -/
def a5 : AFn := ⟨
 ACode.seq (
  ACode.reg false [⟨some 4, .mov (.c (.v (.bool false))), none, []⟩]) (
 ACode.seq (
  ACode.seq (
   ACode.reg false [⟨some 7, .mov (.t 0), none, []⟩,
     ⟨some 8, .mov (.t 1), none, []⟩,
     ⟨some 9, .call 9 [(.t 7), (.t 8)], none, [0, 1]⟩,
     ⟨some 10, .un .not (.t 9), none, [2]⟩,
     ⟨some 11, .mov (.t 10), none, [3, 2]⟩,
     ⟨some 12, .mov (.t 0), some (11, false), [4]⟩,
     ⟨some 13, .call 11 [(.t 12)], some (11, false), [5, 4, 4]⟩,
     ⟨some 14, .un .not (.t 13), some (11, false), [6, 4]⟩,
     ⟨some 15, .pick (.t 11) (.c (.v (.bool true))) (.t 14), none, [4, 7]⟩,
     ⟨some 16, .mov (.t 15), none, [8, 6]⟩,
     ⟨some 17, .mov (.t 1), some (16, false), [9]⟩,
     ⟨some 18, .call 11 [(.t 17)], some (16, false), [10, 9, 9]⟩,
     ⟨some 19, .un .not (.t 18), some (16, false), [11, 9]⟩,
     ⟨some 20, .pick (.t 16) (.c (.v (.bool true))) (.t 19), none, [9, 12]⟩]) (
  ACode.cond (.t 20) (
   ACode.seq (
    ACode.reg false [⟨some 21, .call 10 [], none, []⟩,
      ⟨some 4, .mov (.t 21), none, [0, 0, 0]⟩]) (
   ACode.ret)) (
   ACode.skip))) (
 ACode.seq (
  ACode.reg false [⟨some 22, .mov (.t 0), none, []⟩,
    ⟨some 23, .mov (.t 1), none, []⟩,
    ⟨some 24, .call 18 [(.t 22), (.t 23)], none, [0, 1]⟩,
    ⟨some 5, .mov (.t 24), none, [2, 2, 0, 1, 2]⟩]) (
 ACode.seq (
  ACode.seq (
   ACode.reg false [⟨some 6, .mov (.c (.v (.int .i64 0))), none, []⟩]) (
  ACode.block 0 (
   ACode.loop (
    ACode.seq (
     ACode.seq (
      ACode.reg false [⟨some 25, .mov (.t 6), none, []⟩,
        ⟨some 26, .mov (.t 5), none, []⟩,
        ⟨some 27, .len (.t 26), none, [1]⟩,
        ⟨some 28, .bin .lss 3 (.t 25) (.t 27), none, [0, 2]⟩]) (
     ACode.cond (.t 28) (
      ACode.skip) (
      ACode.exit 0))) (
    ACode.seq (
     ACode.block 1 (
      ACode.seq (
       ACode.reg true [⟨some 31, .mov (.t 0), none, []⟩,
         ⟨some 32, .mov (.t 5), none, []⟩,
         ⟨some 33, .mov (.t 6), none, []⟩,
         ⟨some 34, .ia 6 (.t 32) (.t 33), none, [1, 2]⟩,
         ⟨some 35, .fa 0 (.t 34), none, [3]⟩,
         ⟨some 36, .load false 1 (.t 35), none, [4]⟩,
         ⟨some 37, .mov (.t 5), none, []⟩,
         ⟨some 38, .mov (.t 6), none, []⟩,
         ⟨some 39, .ia 6 (.t 37) (.t 38), none, [6, 7]⟩,
         ⟨some 40, .fa 1 (.t 39), none, [8]⟩,
         ⟨some 41, .load false 1 (.t 40), none, [9]⟩,
         ⟨some 42, .call 20 [(.t 31), (.t 36), (.t 41)], none, [0, 5, 10]⟩,
         ⟨some 43, .mov (.t 5), none, []⟩,
         ⟨some 44, .mov (.t 6), none, []⟩,
         ⟨some 45, .ia 6 (.t 43) (.t 44), none, [12, 13]⟩,
         ⟨some 46, .fa 2 (.t 45), none, [14]⟩,
         ⟨some 47, .load true 4 (.t 46), none, [15]⟩,
         ⟨some 48, .eqs false 28 (.t 42) (.t 47), none, [11, 16]⟩]) (
      ACode.cond (.t 48) (
       ACode.seq (
        ACode.reg false [⟨some 4, .mov (.c (.v (.bool false))), none, []⟩]) (
       ACode.ret)) (
       ACode.skip)))) (
    ACode.reg false [⟨some 29, .mov (.t 6), none, []⟩,
      ⟨some 30, .bin .add 3 (.t 29) (.c (.v (.int .i64 1))), none, [0]⟩,
      ⟨some 6, .mov (.t 30), none, [1, 0, 1]⟩])))))) (
 ACode.seq (
  ACode.reg false [⟨some 49, .call 10 [], none, []⟩,
    ⟨some 50, .mov (.t 49), none, [0, 0]⟩,
    ⟨some 51, .mov (.t 5), some (50, true), [1]⟩,
    ⟨some 52, .call 13 [(.t 51)], some (50, true), [2, 1, 1]⟩,
    ⟨some 53, .pick (.t 50) (.t 52) (.c (.v (.bool false))), none, [1, 3]⟩,
    ⟨some 54, .mov (.t 53), none, [4, 3]⟩,
    ⟨some 55, .mov (.t 0), some (54, true), [5]⟩,
    ⟨some 56, .mov (.t 5), some (54, true), [5]⟩,
    ⟨some 57, .call 16 [(.t 55), (.t 56)], some (54, true), [6, 7, 5, 5]⟩,
    ⟨some 58, .mov (.t 1), some (54, true), [5]⟩,
    ⟨some 59, .call 15 [(.t 57), (.t 58)], some (54, true), [8, 9, 8, 5]⟩,
    ⟨some 60, .pick (.t 54) (.t 59) (.c (.v (.bool false))), none, [5, 10]⟩,
    ⟨some 4, .mov (.t 60), none, [11, 10, 0, 1, 2, 3, 4, 5, 6, 7, 8, 9, 10, 11]⟩]) (
 ACode.ret))))),
 [.tmp 4], 61⟩

/-- semvcs/semvcslaw12.CellsRegisters -/
def a6 : AFn := ⟨
 ACode.seq (
  ACode.reg false [⟨some 8, .mov (.c (.v (.bool false))), none, []⟩]) (
 ACode.seq (
  ACode.seq (
   ACode.reg false [⟨some 12, .mov (.t 0), none, []⟩,
     ⟨some 13, .mov (.t 1), none, []⟩,
     ⟨some 14, .call 9 [(.t 12), (.t 13)], none, [0, 1]⟩,
     ⟨some 15, .un .not (.t 14), none, [2]⟩,
     ⟨some 16, .mov (.t 15), none, [3, 2]⟩,
     ⟨some 17, .mov (.t 0), some (16, false), [4]⟩,
     ⟨some 18, .call 11 [(.t 17)], some (16, false), [5, 4, 4]⟩,
     ⟨some 19, .un .not (.t 18), some (16, false), [6, 4]⟩,
     ⟨some 20, .pick (.t 16) (.c (.v (.bool true))) (.t 19), none, [4, 7]⟩,
     ⟨some 21, .mov (.t 20), none, [8, 6]⟩,
     ⟨some 22, .mov (.t 1), some (21, false), [9]⟩,
     ⟨some 23, .call 13 [(.t 22)], some (21, false), [10, 9, 9]⟩,
     ⟨some 24, .un .not (.t 23), some (21, false), [11, 9]⟩,
     ⟨some 25, .pick (.t 21) (.c (.v (.bool true))) (.t 24), none, [9, 12]⟩]) (
  ACode.cond (.t 25) (
   ACode.seq (
    ACode.reg false [⟨some 26, .call 10 [], none, []⟩,
      ⟨some 8, .mov (.t 26), none, [0, 0, 0]⟩]) (
   ACode.ret)) (
   ACode.skip))) (
 ACode.seq (
  ACode.reg false [⟨some 27, .mov (.t 0), none, []⟩,
    ⟨some 28, .mov (.t 1), none, []⟩,
    ⟨some 29, .call 16 [(.t 27), (.t 28)], none, [0, 1]⟩,
    ⟨some 9, .mov (.t 29), none, [2, 2, 0, 1, 2]⟩]) (
 ACode.seq (
  ACode.reg false [⟨some 30, .mov (.t 0), none, []⟩,
    ⟨some 31, .mov (.t 2), none, []⟩,
    ⟨some 32, .mov (.t 3), none, []⟩,
    ⟨some 33, .call 20 [(.t 30), (.t 31), (.t 32)], none, [0, 1, 2]⟩,
    ⟨some 10, .new 28 [.v (.int .i64 0), .v (.bool false), .v (.string ⟨#[]⟩), .v (.int .i64 0)], none, []⟩,
    ⟨none, .store 4 (.t 10) (.t 33), none, [4, 3, 3, 0, 1, 2, 3, 4]⟩]) (
 ACode.seq (
  ACode.seq (
   ACode.reg false [⟨some 11, .mov (.c (.v (.int .i64 0))), none, []⟩]) (
  ACode.block 0 (
   ACode.loop (
    ACode.seq (
     ACode.seq (
      ACode.reg false [⟨some 34, .mov (.t 11), none, []⟩,
        ⟨some 35, .mov (.t 1), none, []⟩,
        ⟨some 36, .len (.t 35), none, [1]⟩,
        ⟨some 37, .bin .lss 3 (.t 34) (.t 36), none, [0, 2]⟩]) (
     ACode.cond (.t 37) (
      ACode.skip) (
      ACode.exit 0))) (
    ACode.seq (
     ACode.block 1 (
      ACode.seq (
       ACode.seq (
        ACode.reg false [⟨some 40, .mov (.t 1), none, []⟩,
          ⟨some 41, .mov (.t 11), none, []⟩,
          ⟨some 42, .ia 6 (.t 40) (.t 41), none, [0, 1]⟩,
          ⟨some 43, .fa 0 (.t 42), none, [2]⟩,
          ⟨some 44, .load false 1 (.t 43), none, [3]⟩,
          ⟨some 45, .mov (.t 2), none, []⟩,
          ⟨some 46, .bin .eql 3 (.t 44) (.t 45), none, [4, 5]⟩,
          ⟨some 47, .mov (.t 46), none, [6]⟩,
          ⟨some 48, .mov (.t 1), some (47, true), [7]⟩,
          ⟨some 49, .mov (.t 11), some (47, true), [7]⟩,
          ⟨some 50, .ia 6 (.t 48) (.t 49), some (47, true), [8, 9, 7]⟩,
          ⟨some 51, .fa 1 (.t 50), some (47, true), [10, 7]⟩,
          ⟨some 52, .load false 1 (.t 51), some (47, true), [11, 7]⟩,
          ⟨some 53, .mov (.t 3), some (47, true), [7]⟩,
          ⟨some 54, .bin .eql 3 (.t 52) (.t 53), some (47, true), [12, 13, 7]⟩,
          ⟨some 55, .pick (.t 47) (.t 54) (.c (.v (.bool false))), none, [7, 14]⟩]) (
       ACode.cond (.t 55) (
        ACode.reg false [⟨some 56, .mov (.t 1), none, []⟩,
          ⟨some 57, .mov (.t 11), none, []⟩,
          ⟨some 58, .ia 6 (.t 56) (.t 57), none, [0, 1]⟩,
          ⟨some 59, .fa 2 (.t 58), none, [2]⟩,
          ⟨some 60, .load true 4 (.t 59), none, [3]⟩,
          ⟨none, .store 4 (.t 10) (.t 60), none, [4, 0, 1, 2, 3, 4]⟩]) (
        ACode.skip))) (
      ACode.seq (
       ACode.reg true [⟨some 61, .mov (.t 9), none, []⟩,
         ⟨some 62, .mov (.t 1), none, []⟩,
         ⟨some 63, .mov (.t 11), none, []⟩,
         ⟨some 64, .ia 6 (.t 62) (.t 63), none, [1, 2]⟩,
         ⟨some 65, .fa 0 (.t 64), none, [3]⟩,
         ⟨some 66, .load false 1 (.t 65), none, [4]⟩,
         ⟨some 67, .mov (.t 1), none, []⟩,
         ⟨some 68, .mov (.t 11), none, []⟩,
         ⟨some 69, .ia 6 (.t 67) (.t 68), none, [6, 7]⟩,
         ⟨some 70, .fa 1 (.t 69), none, [8]⟩,
         ⟨some 71, .load false 1 (.t 70), none, [9]⟩,
         ⟨some 72, .call 20 [(.t 61), (.t 66), (.t 71)], none, [0, 5, 10]⟩,
         ⟨some 73, .mov (.t 1), none, []⟩,
         ⟨some 74, .mov (.t 11), none, []⟩,
         ⟨some 75, .ia 6 (.t 73) (.t 74), none, [12, 13]⟩,
         ⟨some 76, .fa 2 (.t 75), none, [14]⟩,
         ⟨some 77, .load true 4 (.t 76), none, [15]⟩,
         ⟨some 78, .eqs true 28 (.t 72) (.t 77), none, [11, 16]⟩]) (
      ACode.cond (.t 78) (
       ACode.seq (
        ACode.reg false [⟨some 8, .mov (.c (.v (.bool false))), none, []⟩]) (
       ACode.ret)) (
       ACode.skip))))) (
    ACode.reg false [⟨some 38, .mov (.t 11), none, []⟩,
      ⟨some 39, .bin .add 3 (.t 38) (.c (.v (.int .i64 1))), none, [0]⟩,
      ⟨some 11, .mov (.t 39), none, [1, 0, 1]⟩])))))) (
 ACode.seq (
  ACode.reg true [⟨some 79, .call 10 [], none, []⟩,
    ⟨some 80, .mov (.t 79), none, [0, 0]⟩,
    ⟨some 81, .mov (.t 9), some (80, true), [1]⟩,
    ⟨some 82, .call 11 [(.t 81)], some (80, true), [2, 1, 1]⟩,
    ⟨some 83, .pick (.t 80) (.t 82) (.c (.v (.bool false))), none, [1, 3]⟩,
    ⟨some 84, .mov (.t 83), none, [4, 3]⟩,
    ⟨some 85, .mov (.t 9), some (84, true), [5]⟩,
    ⟨some 86, .mov (.t 2), some (84, true), [5]⟩,
    ⟨some 87, .mov (.t 3), some (84, true), [5]⟩,
    ⟨some 88, .call 20 [(.t 85), (.t 86), (.t 87)], some (84, true), [6, 7, 8, 5, 5]⟩,
    ⟨some 89, .load true 4 (.t 10), some (84, true), [5]⟩,
    ⟨some 90, .eqs false 28 (.t 88) (.t 89), some (84, true), [9, 10, 5]⟩,
    ⟨some 91, .pick (.t 84) (.t 90) (.c (.v (.bool false))), none, [5, 11]⟩,
    ⟨some 8, .mov (.t 91), none, [12, 9, 0, 1, 2, 3, 4, 5, 6, 7, 8, 9, 10, 11, 12]⟩]) (
 ACode.ret)))))),
 [.tmp 8], 92⟩

/-- semvcs/semvcslaw12.CellsApart -/
def a7 : AFn := ⟨
 ACode.seq (
  ACode.reg false [⟨some 6, .mov (.c (.v (.bool false))), none, []⟩]) (
 ACode.seq (
  ACode.seq (
   ACode.reg false [⟨some 10, .mov (.t 0), none, []⟩,
     ⟨some 11, .call 9 [(.t 10), (.c (.nils))], none, [0]⟩,
     ⟨some 12, .un .not (.t 11), none, [1]⟩,
     ⟨some 13, .mov (.t 12), none, [2, 1]⟩,
     ⟨some 14, .mov (.t 1), some (13, false), [3]⟩,
     ⟨some 15, .mov (.t 2), some (13, false), [3]⟩,
     ⟨some 16, .call 9 [(.t 14), (.t 15)], some (13, false), [4, 5, 3, 3]⟩,
     ⟨some 17, .un .not (.t 16), some (13, false), [6, 3]⟩,
     ⟨some 18, .pick (.t 13) (.c (.v (.bool true))) (.t 17), none, [3, 7]⟩,
     ⟨some 19, .mov (.t 18), none, [8, 6]⟩,
     ⟨some 20, .mov (.t 0), some (19, false), [9]⟩,
     ⟨some 21, .call 11 [(.t 20)], some (19, false), [10, 9, 9]⟩,
     ⟨some 22, .un .not (.t 21), some (19, false), [11, 9]⟩,
     ⟨some 23, .pick (.t 19) (.c (.v (.bool true))) (.t 22), none, [9, 12]⟩,
     ⟨some 24, .mov (.t 23), none, [13, 11]⟩,
     ⟨some 25, .mov (.t 1), some (24, false), [14]⟩,
     ⟨some 26, .call 13 [(.t 25)], some (24, false), [15, 14, 14]⟩,
     ⟨some 27, .un .not (.t 26), some (24, false), [16, 14]⟩,
     ⟨some 28, .pick (.t 24) (.c (.v (.bool true))) (.t 27), none, [14, 17]⟩,
     ⟨some 29, .mov (.t 28), none, [18, 16]⟩,
     ⟨some 30, .mov (.t 2), some (29, false), [19]⟩,
     ⟨some 31, .call 13 [(.t 30)], some (29, false), [20, 19, 19]⟩,
     ⟨some 32, .un .not (.t 31), some (29, false), [21, 19]⟩,
     ⟨some 33, .pick (.t 29) (.c (.v (.bool true))) (.t 32), none, [19, 22]⟩]) (
  ACode.cond (.t 33) (
   ACode.seq (
    ACode.reg false [⟨some 34, .call 10 [], none, []⟩,
      ⟨some 6, .mov (.t 34), none, [0, 0, 0]⟩]) (
   ACode.ret)) (
   ACode.skip))) (
 ACode.seq (
  ACode.seq (
   ACode.reg false [⟨some 7, .mov (.c (.v (.int .i64 0))), none, []⟩]) (
  ACode.block 0 (
   ACode.loop (
    ACode.seq (
     ACode.seq (
      ACode.reg false [⟨some 35, .mov (.t 7), none, []⟩,
        ⟨some 36, .mov (.t 1), none, []⟩,
        ⟨some 37, .len (.t 36), none, [1]⟩,
        ⟨some 38, .bin .lss 3 (.t 35) (.t 37), none, [0, 2]⟩]) (
     ACode.cond (.t 38) (
      ACode.skip) (
      ACode.exit 0))) (
    ACode.seq (
     ACode.block 1 (
      ACode.seq (
       ACode.reg false [⟨some 8, .mov (.c (.v (.int .i64 0))), none, []⟩]) (
      ACode.block 2 (
       ACode.loop (
        ACode.seq (
         ACode.seq (
          ACode.reg false [⟨some 41, .mov (.t 8), none, []⟩,
            ⟨some 42, .mov (.t 2), none, []⟩,
            ⟨some 43, .len (.t 42), none, [1]⟩,
            ⟨some 44, .bin .lss 3 (.t 41) (.t 43), none, [0, 2]⟩]) (
         ACode.cond (.t 44) (
          ACode.skip) (
          ACode.exit 2))) (
        ACode.seq (
         ACode.block 3 (
          ACode.seq (
           ACode.reg true [⟨some 47, .mov (.t 1), none, []⟩,
             ⟨some 48, .mov (.t 7), none, []⟩,
             ⟨some 49, .ia 6 (.t 47) (.t 48), none, [0, 1]⟩,
             ⟨some 50, .load true 6 (.t 49), none, [2]⟩,
             ⟨some 51, .mov (.t 2), none, []⟩,
             ⟨some 52, .mov (.t 8), none, []⟩,
             ⟨some 53, .ia 6 (.t 51) (.t 52), none, [4, 5]⟩,
             ⟨some 54, .load true 6 (.t 53), none, [6]⟩,
             ⟨some 55, .call 21 [(.t 50), (.t 54)], none, [3, 7]⟩]) (
          ACode.cond (.t 55) (
           ACode.seq (
            ACode.reg false [⟨some 56, .call 10 [], none, []⟩,
              ⟨some 6, .mov (.t 56), none, [0, 0, 0]⟩]) (
           ACode.ret)) (
           ACode.skip)))) (
        ACode.reg false [⟨some 45, .mov (.t 8), none, []⟩,
          ⟨some 46, .bin .add 3 (.t 45) (.c (.v (.int .i64 1))), none, [0]⟩,
          ⟨some 8, .mov (.t 46), none, [1, 0, 1]⟩]))))))) (
    ACode.reg false [⟨some 39, .mov (.t 7), none, []⟩,
      ⟨some 40, .bin .add 3 (.t 39) (.c (.v (.int .i64 1))), none, [0]⟩,
      ⟨some 7, .mov (.t 40), none, [1, 0, 1]⟩])))))) (
 ACode.seq (
  ACode.reg false [⟨some 57, .mov (.t 0), none, []⟩,
    ⟨some 58, .mov (.t 1), none, []⟩,
    ⟨some 59, .call 16 [(.t 57), (.t 58)], none, [0, 1]⟩,
    ⟨some 60, .mov (.t 2), none, []⟩,
    ⟨some 61, .call 16 [(.t 59), (.t 60)], none, [2, 3, 2]⟩,
    ⟨some 9, .mov (.t 61), none, [4, 4, 0, 1, 2, 3, 4]⟩]) (
 ACode.seq (
  ACode.reg false [⟨some 62, .call 10 [], none, []⟩,
    ⟨some 63, .mov (.t 62), none, [0, 0]⟩,
    ⟨some 64, .mov (.t 9), some (63, true), [1]⟩,
    ⟨some 65, .call 11 [(.t 64)], some (63, true), [2, 1, 1]⟩,
    ⟨some 66, .pick (.t 63) (.t 65) (.c (.v (.bool false))), none, [1, 3]⟩,
    ⟨some 67, .mov (.t 66), none, [4, 3]⟩,
    ⟨some 68, .mov (.t 9), some (67, true), [5]⟩,
    ⟨some 69, .mov (.t 0), some (67, true), [5]⟩,
    ⟨some 70, .mov (.t 2), some (67, true), [5]⟩,
    ⟨some 71, .call 16 [(.t 69), (.t 70)], some (67, true), [7, 8, 5, 5]⟩,
    ⟨some 72, .mov (.t 1), some (67, true), [5]⟩,
    ⟨some 73, .call 16 [(.t 71), (.t 72)], some (67, true), [9, 10, 9, 5]⟩,
    ⟨some 74, .call 15 [(.t 68), (.t 73)], some (67, true), [6, 11, 11, 5]⟩,
    ⟨some 75, .pick (.t 67) (.t 74) (.c (.v (.bool false))), none, [5, 12]⟩,
    ⟨some 6, .mov (.t 75), none, [13, 12, 0, 1, 2, 3, 4, 5, 6, 7, 8, 9, 10, 11, 12, 13]⟩]) (
 ACode.ret))))),
 [.tmp 6], 76⟩

/-- semvcs/semvcslaw12.CellsReads -/
def a8 : AFn := ⟨
 ACode.seq (
  ACode.reg false [⟨some 6, .mov (.c (.v (.bool false))), none, []⟩]) (
 ACode.seq (
  ACode.seq (
   ACode.reg false [⟨some 7, .mov (.t 0), none, []⟩,
     ⟨some 8, .call 9 [(.t 7), (.c (.nils))], none, [0]⟩,
     ⟨some 9, .un .not (.t 8), none, [1]⟩]) (
  ACode.cond (.t 9) (
   ACode.seq (
    ACode.reg false [⟨some 10, .call 10 [], none, []⟩,
      ⟨some 6, .mov (.t 10), none, [0, 0, 0]⟩]) (
   ACode.ret)) (
   ACode.skip))) (
 ACode.seq (
  ACode.reg false [⟨some 11, .call 10 [], none, []⟩,
    ⟨some 12, .mov (.t 11), none, [0, 0]⟩,
    ⟨some 13, .mov (.t 0), some (12, true), [1]⟩,
    ⟨some 14, .mov (.t 1), some (12, true), [1]⟩,
    ⟨some 15, .mov (.t 2), some (12, true), [1]⟩,
    ⟨some 16, .call 20 [(.t 13), (.t 14), (.t 15)], some (12, true), [2, 3, 4, 1, 1]⟩,
    ⟨some 17, .mov (.t 0), some (12, true), [1]⟩,
    ⟨some 18, .mov (.t 1), some (12, true), [1]⟩,
    ⟨some 19, .mov (.t 2), some (12, true), [1]⟩,
    ⟨some 20, .call 22 [(.t 17), (.t 18), (.t 19)], some (12, true), [6, 7, 8, 5, 1]⟩,
    ⟨some 21, .eqs false 28 (.t 16) (.t 20), some (12, true), [5, 9, 1]⟩,
    ⟨some 22, .pick (.t 12) (.t 21) (.c (.v (.bool false))), none, [1, 10]⟩,
    ⟨some 23, .mov (.t 22), none, [11, 9]⟩,
    ⟨some 24, .mov (.t 0), some (23, true), [12]⟩,
    ⟨some 25, .mov (.t 1), some (23, true), [12]⟩,
    ⟨some 26, .call 23 [(.t 24), (.t 25)], some (23, true), [13, 14, 12, 12]⟩,
    ⟨some 27, .mov (.t 0), some (23, true), [12]⟩,
    ⟨some 28, .mov (.t 1), some (23, true), [12]⟩,
    ⟨some 29, .call 24 [(.t 27), (.t 28)], some (23, true), [16, 17, 15, 12]⟩,
    ⟨some 30, .call 15 [(.t 26), (.t 29)], some (23, true), [15, 18, 18, 12]⟩,
    ⟨some 31, .pick (.t 23) (.t 30) (.c (.v (.bool false))), none, [12, 19]⟩,
    ⟨some 6, .mov (.t 31), none, [20, 19, 0, 1, 2, 3, 4, 5, 6, 7, 8, 9, 10, 11, 12, 13, 14, 15, 16, 17, 18, 19, 20]⟩]) (
 ACode.ret))),
 [.tmp 6], 32⟩

/-- semvcs/semvcslaw12.light -/
def a9 : AFn := ⟨
 ACode.seq (
  ACode.reg false [⟨some 4, .mov (.c (.v (.bool false))), none, []⟩]) (
 ACode.seq (
  ACode.reg false [⟨some 5, .mov (.t 0), none, []⟩,
    ⟨some 6, .len (.t 5), none, [0]⟩,
    ⟨some 7, .bin .leq 3 (.t 6) (.c (.v (.int .i64 200))), none, [1]⟩,
    ⟨some 8, .mov (.t 7), none, [2]⟩,
    ⟨some 9, .mov (.t 1), some (8, true), [3]⟩,
    ⟨some 10, .len (.t 9), some (8, true), [4, 3]⟩,
    ⟨some 11, .bin .leq 3 (.t 10) (.c (.v (.int .i64 200))), some (8, true), [5, 3]⟩,
    ⟨some 12, .pick (.t 8) (.t 11) (.c (.v (.bool false))), none, [3, 6]⟩,
    ⟨some 4, .mov (.t 12), none, [7, 3, 0, 1, 2, 3, 4, 5, 6, 7]⟩]) (
 ACode.ret)),
 [.tmp 4], 13⟩

/-- semvcs/semvcslaw12.awake -/
def a10 : AFn := ⟨
 ACode.seq (
  ACode.reg false [⟨some 0, .mov (.c (.v (.bool false))), none, []⟩]) (
 ACode.seq (
  ACode.reg false [⟨some 4, .build [.v (.int .i64 0), .v (.bool false), .v (.string ⟨#[]⟩), .v (.int .i64 0)] [(0, 1, (.c (.v (.int .i64 2))))], none, []⟩,
    ⟨some 5, .call 25 [(.c (.v (.int .i64 1))), (.t 4)], none, [0]⟩,
    ⟨some 6, .build [.v (.int .i64 0), .v (.bool false), .v (.string ⟨#[]⟩), .v (.int .i64 0)] [(2, 1, (.c (.v (.string ⟨#[102]⟩))))], none, []⟩,
    ⟨some 7, .call 25 [(.c (.v (.int .i64 3))), (.t 6)], none, [2, 1]⟩,
    ⟨some 8, .append 31 6 56 (.t 5) (.t 7), none, [1, 3, 3]⟩,
    ⟨some 1, .mov (.t 8), none, [4, 4, 0, 1, 2, 3, 4]⟩]) (
 ACode.seq (
  ACode.reg false [⟨some 9, .mov (.t 1), none, []⟩,
    ⟨some 10, .build [.v (.int .i64 0), .v (.bool false), .v (.string ⟨#[]⟩), .v (.int .i64 0)] [(2, 1, (.c (.v (.string ⟨#[103]⟩))))], none, []⟩,
    ⟨some 11, .call 25 [(.c (.v (.int .i64 3))), (.t 10)], none, [1]⟩,
    ⟨some 12, .call 16 [(.t 9), (.t 11)], none, [0, 2, 2]⟩,
    ⟨some 2, .mov (.t 12), none, [3, 3, 0, 1, 2, 3]⟩]) (
 ACode.seq (
  ACode.reg false [⟨some 13, .mov (.t 1), none, []⟩,
    ⟨some 14, .build [.v (.int .i64 0), .v (.bool false), .v (.string ⟨#[]⟩), .v (.int .i64 0)] [], none, []⟩,
    ⟨some 15, .call 25 [(.c (.v (.int .i64 3))), (.t 14)], none, [1]⟩,
    ⟨some 16, .call 16 [(.t 13), (.t 15)], none, [0, 2, 2]⟩,
    ⟨some 3, .mov (.t 16), none, [3, 3, 0, 1, 2, 3]⟩]) (
 ACode.seq (
  ACode.reg false [⟨some 17, .mov (.t 1), none, []⟩,
    ⟨some 18, .call 11 [(.t 17)], none, [0]⟩,
    ⟨some 19, .mov (.t 18), none, [1, 1]⟩,
    ⟨some 20, .mov (.t 2), some (19, true), [2]⟩,
    ⟨some 21, .len (.t 20), some (19, true), [3, 2]⟩,
    ⟨some 22, .bin .eql 3 (.t 21) (.c (.v (.int .i64 2))), some (19, true), [4, 2]⟩,
    ⟨some 23, .pick (.t 19) (.t 22) (.c (.v (.bool false))), none, [2, 5]⟩,
    ⟨some 24, .mov (.t 23), none, [6, 2]⟩,
    ⟨some 25, .mov (.t 2), some (24, true), [7]⟩,
    ⟨some 26, .call 20 [(.t 25), (.c (.v (.int .i64 1048577))), (.c (.v (.int .i64 3)))], some (24, true), [8, 7, 7]⟩,
    ⟨some 27, .field false 1 2 (.t 26), some (24, true), [9, 7]⟩,
    ⟨some 28, .bin .eql 9 (.t 27) (.c (.v (.string ⟨#[103]⟩))), some (24, true), [10, 7]⟩,
    ⟨some 29, .pick (.t 24) (.t 28) (.c (.v (.bool false))), none, [7, 11]⟩,
    ⟨some 30, .mov (.t 29), none, [12, 9]⟩,
    ⟨some 31, .mov (.t 3), some (30, true), [13]⟩,
    ⟨some 32, .len (.t 31), some (30, true), [14, 13]⟩,
    ⟨some 33, .bin .eql 3 (.t 32) (.c (.v (.int .i64 1))), some (30, true), [15, 13]⟩,
    ⟨some 34, .pick (.t 30) (.t 33) (.c (.v (.bool false))), none, [13, 16]⟩,
    ⟨some 35, .mov (.t 34), none, [17, 13]⟩,
    ⟨some 36, .mov (.t 1), some (35, true), [18]⟩,
    ⟨some 37, .mov (.t 2), some (35, true), [18]⟩,
    ⟨some 38, .call 18 [(.t 36), (.t 37)], some (35, true), [19, 20, 18, 18]⟩,
    ⟨some 39, .len (.t 38), some (35, true), [21, 18]⟩,
    ⟨some 40, .bin .eql 3 (.t 39) (.c (.v (.int .i64 1))), some (35, true), [22, 18]⟩,
    ⟨some 41, .pick (.t 35) (.t 40) (.c (.v (.bool false))), none, [18, 23]⟩,
    ⟨some 42, .mov (.t 41), none, [24, 21]⟩,
    ⟨some 43, .mov (.t 1), some (42, true), [25]⟩,
    ⟨some 44, .mov (.t 1), some (42, true), [25]⟩,
    ⟨some 45, .call 18 [(.t 43), (.t 44)], some (42, true), [26, 27, 25, 25]⟩,
    ⟨some 46, .len (.t 45), some (42, true), [28, 25]⟩,
    ⟨some 47, .bin .eql 3 (.t 46) (.c (.v (.int .i64 0))), some (42, true), [29, 25]⟩,
    ⟨some 48, .pick (.t 42) (.t 47) (.c (.v (.bool false))), none, [25, 30]⟩,
    ⟨some 0, .mov (.t 48), none, [31, 28, 0, 1, 2, 3, 4, 5, 6, 7, 8, 9, 10, 11, 12, 13, 14, 15, 16, 17, 18, 19, 20, 21, 22, 23, 24, 25, 26, 27, 28, 29, 30, 31]⟩]) (
 ACode.ret))))),
 [.tmp 0], 49⟩

/-- semvcs/cells.Valid -/
def a11 : AFn := ⟨
 ACode.seq (
  ACode.reg false [⟨some 2, .mov (.c (.v (.bool false))), none, []⟩]) (
 ACode.seq (
  ACode.seq (
   ACode.reg false [⟨some 5, .mov (.t 0), none, []⟩,
     ⟨some 6, .len (.t 5), none, [0]⟩,
     ⟨some 7, .mov (.c (.v (.int .i64 0))), none, []⟩]) (
  ACode.block 0 (
   ACode.loop (
    ACode.seq (
     ACode.reg false [⟨some 8, .bin .lss 3 (.t 7) (.t 6), none, []⟩]) (
    ACode.seq (
     ACode.cond (.t 8) (
      ACode.skip) (
      ACode.exit 0)) (
    ACode.seq (
     ACode.block 1 (
      ACode.seq (
       ACode.reg false [⟨some 9, .ia 6 (.t 5) (.t 7), none, []⟩,
         ⟨some 10, .load true 6 (.t 9), none, [0]⟩,
         ⟨some 4, .new 31 [.v (.int .i64 0), .v (.int .i64 0), .v (.int .i64 0), .v (.bool false), .v (.string ⟨#[]⟩), .v (.int .i64 0)], none, []⟩,
         ⟨none, .store 6 (.t 4) (.t 10), none, [2, 1, 0, 1, 2]⟩]) (
      ACode.seq (
       ACode.reg false [⟨some 11, .fa 2 (.t 4), none, []⟩,
         ⟨some 12, .load true 4 (.t 11), none, [0]⟩,
         ⟨some 13, .build [.v (.int .i64 0), .v (.bool false), .v (.string ⟨#[]⟩), .v (.int .i64 0)] [], none, []⟩,
         ⟨some 14, .eqs false 28 (.t 12) (.t 13), none, [1, 2]⟩]) (
      ACode.cond (.t 14) (
       ACode.seq (
        ACode.reg false [⟨some 2, .mov (.c (.v (.bool false))), none, []⟩]) (
       ACode.ret)) (
       ACode.skip))))) (
    ACode.reg false [⟨some 15, .bin .add 3 (.t 7) (.c (.v (.int .i64 1))), none, []⟩,
      ⟨some 7, .mov (.t 15), none, [0]⟩]))))))) (
 ACode.seq (
  ACode.reg false [⟨some 16, .mov (.t 0), none, []⟩,
    ⟨some 17, .call 13 [(.t 16)], none, [0]⟩,
    ⟨some 2, .mov (.t 17), none, [1, 1, 0, 1]⟩]) (
 ACode.ret))),
 [.tmp 2], 18⟩

/-- semvcs/semvcsref12.Valid -/
def a12 : AFn := ⟨
 ACode.seq (
  ACode.reg false [⟨some 2, .mov (.c (.v (.bool false))), none, []⟩]) (
 ACode.seq (
  ACode.seq (
   ACode.reg false [⟨some 3, .mov (.c (.v (.int .i64 0))), none, []⟩]) (
  ACode.block 0 (
   ACode.loop (
    ACode.seq (
     ACode.seq (
      ACode.reg false [⟨some 4, .mov (.t 3), none, []⟩,
        ⟨some 5, .mov (.t 0), none, []⟩,
        ⟨some 6, .len (.t 5), none, [1]⟩,
        ⟨some 7, .bin .lss 3 (.t 4) (.t 6), none, [0, 2]⟩]) (
     ACode.cond (.t 7) (
      ACode.skip) (
      ACode.exit 0))) (
    ACode.seq (
     ACode.block 1 (
      ACode.seq (
       ACode.reg false [⟨some 10, .mov (.t 0), none, []⟩,
         ⟨some 11, .mov (.t 3), none, []⟩,
         ⟨some 12, .ia 6 (.t 10) (.t 11), none, [0, 1]⟩,
         ⟨some 13, .fa 2 (.t 12), none, [2]⟩,
         ⟨some 14, .load true 4 (.t 13), none, [3]⟩,
         ⟨some 15, .build [.v (.int .i64 0), .v (.bool false), .v (.string ⟨#[]⟩), .v (.int .i64 0)] [], none, []⟩,
         ⟨some 16, .eqs false 28 (.t 14) (.t 15), none, [4, 5]⟩]) (
      ACode.cond (.t 16) (
       ACode.seq (
        ACode.reg false [⟨some 2, .mov (.c (.v (.bool false))), none, []⟩]) (
       ACode.ret)) (
       ACode.skip)))) (
    ACode.reg false [⟨some 8, .mov (.t 3), none, []⟩,
      ⟨some 9, .bin .add 3 (.t 8) (.c (.v (.int .i64 1))), none, [0]⟩,
      ⟨some 3, .mov (.t 9), none, [1, 0, 1]⟩])))))) (
 ACode.seq (
  ACode.reg false [⟨some 17, .mov (.t 0), none, []⟩,
    ⟨some 18, .call 14 [(.t 17)], none, [0]⟩,
    ⟨some 2, .mov (.t 18), none, [1, 1, 0, 1]⟩]) (
 ACode.ret))),
 [.tmp 2], 19⟩

/-- semvcs/cells.Writes -/
def a13 : AFn := ⟨
 ACode.seq (
  ACode.reg false [⟨some 2, .mov (.c (.v (.bool false))), none, []⟩]) (
 ACode.seq (
  ACode.seq (
   ACode.reg false [⟨some 5, .mov (.t 0), none, []⟩,
     ⟨some 6, .len (.t 5), none, [0]⟩,
     ⟨some 7, .mov (.c (.v (.int .i64 0))), none, []⟩]) (
  ACode.block 0 (
   ACode.loop (
    ACode.seq (
     ACode.reg false [⟨some 8, .bin .lss 3 (.t 7) (.t 6), none, []⟩]) (
    ACode.seq (
     ACode.cond (.t 8) (
      ACode.skip) (
      ACode.exit 0)) (
    ACode.seq (
     ACode.block 1 (
      ACode.seq (
       ACode.reg false [⟨some 9, .mov (.t 7), none, []⟩,
         ⟨some 10, .ia 6 (.t 5) (.t 7), none, []⟩,
         ⟨some 11, .load true 6 (.t 10), none, [1]⟩,
         ⟨some 4, .new 31 [.v (.int .i64 0), .v (.int .i64 0), .v (.int .i64 0), .v (.bool false), .v (.string ⟨#[]⟩), .v (.int .i64 0)], none, []⟩,
         ⟨some 3, .mov (.t 9), none, [0, 0, 1, 2, 3]⟩,
         ⟨none, .store 6 (.t 4) (.t 11), none, [3, 2, 4, 0, 1, 2, 3, 4]⟩]) (
      ACode.seq (
       ACode.seq (
        ACode.reg false [⟨some 12, .fa 0 (.t 4), none, []⟩,
          ⟨some 13, .load false 1 (.t 12), none, [0]⟩,
          ⟨some 14, .call 26 [(.t 13)], none, [1]⟩,
          ⟨some 15, .un .not (.t 14), none, [2]⟩,
          ⟨some 16, .mov (.t 15), none, [3, 2]⟩,
          ⟨some 17, .fa 1 (.t 4), some (16, false), [4]⟩,
          ⟨some 18, .load false 1 (.t 17), some (16, false), [5, 4]⟩,
          ⟨some 19, .bin .lss 3 (.t 18) (.c (.v (.int .i64 1))), some (16, false), [6, 4]⟩,
          ⟨some 20, .pick (.t 16) (.c (.v (.bool true))) (.t 19), none, [4, 7]⟩,
          ⟨some 21, .mov (.t 20), none, [8, 4]⟩,
          ⟨some 22, .fa 1 (.t 4), some (21, false), [9]⟩,
          ⟨some 23, .load false 1 (.t 22), some (21, false), [10, 9]⟩,
          ⟨some 24, .bin .geq 3 (.t 23) (.c (.v (.int .i64 48))), some (21, false), [11, 9]⟩,
          ⟨some 25, .pick (.t 21) (.c (.v (.bool true))) (.t 24), none, [9, 12]⟩]) (
       ACode.cond (.t 25) (
        ACode.seq (
         ACode.reg false [⟨some 2, .mov (.c (.v (.bool false))), none, []⟩]) (
        ACode.ret)) (
        ACode.skip))) (
      ACode.seq (
       ACode.reg true [⟨some 26, .mov (.t 3), none, []⟩,
         ⟨some 27, .bin .gtr 3 (.t 26) (.c (.v (.int .i64 0))), none, [0]⟩,
         ⟨some 28, .mov (.t 27), none, [1]⟩,
         ⟨some 29, .mov (.t 0), some (28, true), [2]⟩,
         ⟨some 30, .mov (.t 3), some (28, true), [2]⟩,
         ⟨some 31, .bin .sub 3 (.t 30) (.c (.v (.int .i64 1))), some (28, true), [4, 2]⟩,
         ⟨some 32, .ia 6 (.t 29) (.t 31), some (28, true), [3, 5, 2]⟩,
         ⟨some 33, .load true 6 (.t 32), some (28, true), [6, 2]⟩,
         ⟨some 34, .load true 6 (.t 4), some (28, true), [2]⟩,
         ⟨some 35, .call 27 [(.t 33), (.t 34)], some (28, true), [7, 8, 2, 2]⟩,
         ⟨some 36, .bin .geq 3 (.t 35) (.c (.v (.int .i64 0))), some (28, true), [9, 2]⟩,
         ⟨some 37, .pick (.t 28) (.t 36) (.c (.v (.bool false))), none, [2, 10]⟩]) (
      ACode.cond (.t 37) (
       ACode.seq (
        ACode.reg false [⟨some 2, .mov (.c (.v (.bool false))), none, []⟩]) (
       ACode.ret)) (
       ACode.skip)))))) (
    ACode.reg false [⟨some 38, .bin .add 3 (.t 7) (.c (.v (.int .i64 1))), none, []⟩,
      ⟨some 7, .mov (.t 38), none, [0]⟩]))))))) (
 ACode.seq (
  ACode.reg false [⟨some 2, .mov (.c (.v (.bool true))), none, []⟩]) (
 ACode.ret))),
 [.tmp 2], 39⟩

/-- semvcs/semvcsref12.Writes -/
def a14 : AFn := ⟨
 ACode.seq (
  ACode.reg false [⟨some 2, .mov (.c (.v (.bool false))), none, []⟩]) (
 ACode.seq (
  ACode.seq (
   ACode.reg false [⟨some 3, .mov (.c (.v (.int .i64 0))), none, []⟩]) (
  ACode.block 0 (
   ACode.loop (
    ACode.seq (
     ACode.seq (
      ACode.reg false [⟨some 4, .mov (.t 3), none, []⟩,
        ⟨some 5, .mov (.t 0), none, []⟩,
        ⟨some 6, .len (.t 5), none, [1]⟩,
        ⟨some 7, .bin .lss 3 (.t 4) (.t 6), none, [0, 2]⟩]) (
     ACode.cond (.t 7) (
      ACode.skip) (
      ACode.exit 0))) (
    ACode.seq (
     ACode.block 1 (
      ACode.seq (
       ACode.reg true [⟨some 10, .mov (.t 0), none, []⟩,
         ⟨some 11, .mov (.t 3), none, []⟩,
         ⟨some 12, .ia 6 (.t 10) (.t 11), none, [0, 1]⟩,
         ⟨some 13, .fa 0 (.t 12), none, [2]⟩,
         ⟨some 14, .load false 1 (.t 13), none, [3]⟩,
         ⟨some 15, .call 28 [(.t 14)], none, [4]⟩,
         ⟨some 16, .un .not (.t 15), none, [5]⟩,
         ⟨some 17, .mov (.t 16), none, [6, 5]⟩,
         ⟨some 18, .mov (.t 0), some (17, false), [7]⟩,
         ⟨some 19, .mov (.t 3), some (17, false), [7]⟩,
         ⟨some 20, .ia 6 (.t 18) (.t 19), some (17, false), [8, 9, 7]⟩,
         ⟨some 21, .fa 1 (.t 20), some (17, false), [10, 7]⟩,
         ⟨some 22, .load false 1 (.t 21), some (17, false), [11, 7]⟩,
         ⟨some 23, .bin .lss 3 (.t 22) (.c (.v (.int .i64 1))), some (17, false), [12, 7]⟩,
         ⟨some 24, .pick (.t 17) (.c (.v (.bool true))) (.t 23), none, [7, 13]⟩,
         ⟨some 25, .mov (.t 24), none, [14, 7]⟩,
         ⟨some 26, .mov (.t 0), some (25, false), [15]⟩,
         ⟨some 27, .mov (.t 3), some (25, false), [15]⟩,
         ⟨some 28, .ia 6 (.t 26) (.t 27), some (25, false), [16, 17, 15]⟩,
         ⟨some 29, .fa 1 (.t 28), some (25, false), [18, 15]⟩,
         ⟨some 30, .load false 1 (.t 29), some (25, false), [19, 15]⟩,
         ⟨some 31, .bin .geq 3 (.t 30) (.c (.v (.int .i64 48))), some (25, false), [20, 15]⟩,
         ⟨some 32, .pick (.t 25) (.c (.v (.bool true))) (.t 31), none, [15, 21]⟩,
         ⟨some 33, .mov (.t 32), none, [22, 15]⟩,
         ⟨some 34, .mov (.t 3), some (33, false), [23]⟩,
         ⟨some 35, .bin .gtr 3 (.t 34) (.c (.v (.int .i64 0))), some (33, false), [24, 23]⟩,
         ⟨some 36, .mov (.t 35), some (33, false), [25, 23, 23]⟩,
         ⟨some 37, .mov (.t 0), some (36, true), [26]⟩,
         ⟨some 38, .mov (.t 3), some (36, true), [26]⟩,
         ⟨some 39, .bin .sub 3 (.t 38) (.c (.v (.int .i64 1))), some (36, true), [28, 26]⟩,
         ⟨some 40, .ia 6 (.t 37) (.t 39), some (36, true), [27, 29, 26]⟩,
         ⟨some 41, .load true 6 (.t 40), some (36, true), [30, 26]⟩,
         ⟨some 42, .mov (.t 0), some (36, true), [26]⟩,
         ⟨some 43, .mov (.t 3), some (36, true), [26]⟩,
         ⟨some 44, .ia 6 (.t 42) (.t 43), some (36, true), [32, 33, 26]⟩,
         ⟨some 45, .load true 6 (.t 44), some (36, true), [34, 26]⟩,
         ⟨some 46, .call 29 [(.t 41), (.t 45)], some (36, true), [31, 35, 26, 26]⟩,
         ⟨some 47, .un .not (.t 46), some (36, true), [36, 26]⟩,
         ⟨some 48, .pick (.t 36) (.t 47) (.c (.v (.bool false))), some (33, false), [26, 37, 23]⟩,
         ⟨some 49, .pick (.t 33) (.c (.v (.bool true))) (.t 48), none, [23, 38]⟩]) (
      ACode.cond (.t 49) (
       ACode.seq (
        ACode.reg false [⟨some 2, .mov (.c (.v (.bool false))), none, []⟩]) (
       ACode.ret)) (
       ACode.skip)))) (
    ACode.reg false [⟨some 8, .mov (.t 3), none, []⟩,
      ⟨some 9, .bin .add 3 (.t 8) (.c (.v (.int .i64 1))), none, [0]⟩,
      ⟨some 3, .mov (.t 9), none, [1, 0, 1]⟩])))))) (
 ACode.seq (
  ACode.reg false [⟨some 2, .mov (.c (.v (.bool true))), none, []⟩]) (
 ACode.ret))),
 [.tmp 2], 50⟩

/-- semvcs/semvcsref12.Same -/
def a15 : AFn := ⟨
 ACode.seq (
  ACode.reg false [⟨some 4, .mov (.c (.v (.bool false))), none, []⟩]) (
 ACode.seq (
  ACode.seq (
   ACode.reg false [⟨some 6, .mov (.t 0), none, []⟩,
     ⟨some 7, .len (.t 6), none, [0]⟩,
     ⟨some 8, .mov (.t 1), none, []⟩,
     ⟨some 9, .len (.t 8), none, [2]⟩,
     ⟨some 10, .bin .neq 3 (.t 7) (.t 9), none, [1, 3]⟩]) (
  ACode.cond (.t 10) (
   ACode.seq (
    ACode.reg false [⟨some 4, .mov (.c (.v (.bool false))), none, []⟩]) (
   ACode.ret)) (
   ACode.skip))) (
 ACode.seq (
  ACode.seq (
   ACode.reg false [⟨some 5, .mov (.c (.v (.int .i64 0))), none, []⟩]) (
  ACode.block 0 (
   ACode.loop (
    ACode.seq (
     ACode.seq (
      ACode.reg false [⟨some 11, .mov (.t 5), none, []⟩,
        ⟨some 12, .mov (.t 0), none, []⟩,
        ⟨some 13, .len (.t 12), none, [1]⟩,
        ⟨some 14, .bin .lss 3 (.t 11) (.t 13), none, [0, 2]⟩]) (
     ACode.cond (.t 14) (
      ACode.skip) (
      ACode.exit 0))) (
    ACode.seq (
     ACode.block 1 (
      ACode.seq (
       ACode.reg true [⟨some 17, .mov (.t 0), none, []⟩,
         ⟨some 18, .mov (.t 5), none, []⟩,
         ⟨some 19, .ia 6 (.t 17) (.t 18), none, [0, 1]⟩,
         ⟨some 20, .load true 6 (.t 19), none, [2]⟩,
         ⟨some 21, .mov (.t 1), none, []⟩,
         ⟨some 22, .mov (.t 5), none, []⟩,
         ⟨some 23, .ia 6 (.t 21) (.t 22), none, [4, 5]⟩,
         ⟨some 24, .load true 6 (.t 23), none, [6]⟩,
         ⟨some 25, .eqs true 31 (.t 20) (.t 24), none, [3, 7]⟩]) (
      ACode.cond (.t 25) (
       ACode.seq (
        ACode.reg false [⟨some 4, .mov (.c (.v (.bool false))), none, []⟩]) (
       ACode.ret)) (
       ACode.skip)))) (
    ACode.reg false [⟨some 15, .mov (.t 5), none, []⟩,
      ⟨some 16, .bin .add 3 (.t 15) (.c (.v (.int .i64 1))), none, [0]⟩,
      ⟨some 5, .mov (.t 16), none, [1, 0, 1]⟩])))))) (
 ACode.seq (
  ACode.reg false [⟨some 4, .mov (.c (.v (.bool true))), none, []⟩]) (
 ACode.ret)))),
 [.tmp 4], 26⟩

/-- semvcs/cells.Put -/
def a16 : AFn := ⟨
 ACode.seq (
  ACode.reg false [⟨some 4, .mov (.c (.nils)), none, []⟩]) (
 ACode.seq (
  ACode.seq (
   ACode.reg false [⟨some 8, .mov (.t 0), none, []⟩,
     ⟨some 9, .call 11 [(.t 8)], none, [0]⟩,
     ⟨some 10, .un .not (.t 9), none, [1]⟩,
     ⟨some 11, .mov (.t 10), none, [2, 1]⟩,
     ⟨some 12, .mov (.t 1), some (11, false), [3]⟩,
     ⟨some 13, .call 13 [(.t 12)], some (11, false), [4, 3, 3]⟩,
     ⟨some 14, .un .not (.t 13), some (11, false), [5, 3]⟩,
     ⟨some 15, .pick (.t 11) (.c (.v (.bool true))) (.t 14), none, [3, 6]⟩]) (
  ACode.cond (.t 15) (
   ACode.seq (
    ACode.reg false [⟨some 4, .mov (.c (.nils)), none, []⟩]) (
   ACode.ret)) (
   ACode.skip))) (
 ACode.seq (
  ACode.reg false [⟨some 5, .mov (.c (.nils)), none, []⟩]) (
 ACode.seq (
  ACode.seq (
   ACode.reg false [⟨some 16, .mov (.t 1), none, []⟩,
     ⟨some 17, .len (.t 16), none, [0]⟩,
     ⟨some 18, .mov (.c (.v (.int .i64 0))), none, []⟩]) (
  ACode.block 0 (
   ACode.loop (
    ACode.seq (
     ACode.reg false [⟨some 19, .bin .lss 3 (.t 18) (.t 17), none, []⟩]) (
    ACode.seq (
     ACode.cond (.t 19) (
      ACode.skip) (
      ACode.exit 0)) (
    ACode.seq (
     ACode.block 1 (
      ACode.seq (
       ACode.reg false [⟨some 20, .ia 6 (.t 16) (.t 18), none, []⟩,
         ⟨some 21, .load true 6 (.t 20), none, [0]⟩,
         ⟨some 7, .new 31 [.v (.int .i64 0), .v (.int .i64 0), .v (.int .i64 0), .v (.bool false), .v (.string ⟨#[]⟩), .v (.int .i64 0)], none, []⟩,
         ⟨none, .store 6 (.t 7) (.t 21), none, [2, 1, 0, 1, 2]⟩]) (
      ACode.seq (
       ACode.block 2 (
        ACode.loop (
         ACode.seq (
          ACode.seq (
           ACode.reg true [⟨some 22, .mov (.t 0), none, []⟩,
             ⟨some 23, .len (.t 22), none, [0]⟩,
             ⟨some 24, .bin .gtr 3 (.t 23) (.c (.v (.int .i64 0))), none, [1]⟩,
             ⟨some 25, .mov (.t 24), none, [2]⟩,
             ⟨some 26, .mov (.t 0), some (25, true), [3]⟩,
             ⟨some 27, .ia 6 (.t 26) (.c (.v (.int .i64 0))), some (25, true), [4, 3]⟩,
             ⟨some 28, .load true 6 (.t 27), some (25, true), [5, 3]⟩,
             ⟨some 29, .load true 6 (.t 7), some (25, true), [3]⟩,
             ⟨some 30, .call 27 [(.t 28), (.t 29)], some (25, true), [6, 7, 3, 3]⟩,
             ⟨some 31, .bin .lss 3 (.t 30) (.c (.v (.int .i64 0))), some (25, true), [8, 3]⟩,
             ⟨some 32, .pick (.t 25) (.t 31) (.c (.v (.bool false))), none, [3, 9]⟩]) (
          ACode.cond (.t 32) (
           ACode.skip) (
           ACode.exit 2))) (
         ACode.block 3 (
          ACode.seq (
           ACode.reg false [⟨some 33, .mov (.t 5), none, []⟩,
             ⟨some 34, .mov (.t 0), none, []⟩,
             ⟨some 35, .ia 6 (.t 34) (.c (.v (.int .i64 0))), none, [1]⟩,
             ⟨some 36, .load true 6 (.t 35), none, [2]⟩,
             ⟨some 37, .bslice 31 6 1 [.v (.int .i64 0), .v (.int .i64 0), .v (.int .i64 0), .v (.bool false), .v (.string ⟨#[]⟩), .v (.int .i64 0)] [(0, (.t 36))], none, [3]⟩,
             ⟨some 38, .append 31 6 56 (.t 33) (.t 37), none, [0, 4]⟩,
             ⟨some 5, .mov (.t 38), none, [5, 5, 0, 1, 2, 3, 4, 5]⟩]) (
          ACode.reg false [⟨some 39, .mov (.t 0), none, []⟩,
            ⟨some 40, .slice 6 (.t 39) (some (.c (.v (.int .i64 1)))) none, none, [0]⟩,
            ⟨some 0, .mov (.t 40), none, [1, 0, 1]⟩])))))) (
      ACode.seq (
       ACode.seq (
        ACode.reg true [⟨some 41, .mov (.t 0), none, []⟩,
          ⟨some 42, .len (.t 41), none, [0]⟩,
          ⟨some 43, .bin .gtr 3 (.t 42) (.c (.v (.int .i64 0))), none, [1]⟩,
          ⟨some 44, .mov (.t 43), none, [2]⟩,
          ⟨some 45, .mov (.t 0), some (44, true), [3]⟩,
          ⟨some 46, .ia 6 (.t 45) (.c (.v (.int .i64 0))), some (44, true), [4, 3]⟩,
          ⟨some 47, .load true 6 (.t 46), some (44, true), [5, 3]⟩,
          ⟨some 48, .load true 6 (.t 7), some (44, true), [3]⟩,
          ⟨some 49, .call 27 [(.t 47), (.t 48)], some (44, true), [6, 7, 3, 3]⟩,
          ⟨some 50, .bin .eql 3 (.t 49) (.c (.v (.int .i64 0))), some (44, true), [8, 3]⟩,
          ⟨some 51, .pick (.t 44) (.t 50) (.c (.v (.bool false))), none, [3, 9]⟩]) (
       ACode.cond (.t 51) (
        ACode.reg false [⟨some 52, .mov (.t 0), none, []⟩,
          ⟨some 53, .slice 6 (.t 52) (some (.c (.v (.int .i64 1)))) none, none, [0]⟩,
          ⟨some 0, .mov (.t 53), none, [1, 0, 1]⟩]) (
        ACode.skip))) (
      ACode.seq (
       ACode.reg false [⟨some 54, .fa 2 (.t 7), none, []⟩,
         ⟨some 55, .load true 4 (.t 54), none, [0]⟩,
         ⟨some 56, .build [.v (.int .i64 0), .v (.bool false), .v (.string ⟨#[]⟩), .v (.int .i64 0)] [], none, []⟩,
         ⟨some 57, .eqs true 28 (.t 55) (.t 56), none, [1, 2]⟩]) (
      ACode.cond (.t 57) (
       ACode.reg false [⟨some 58, .mov (.t 5), none, []⟩,
         ⟨some 59, .load true 6 (.t 7), none, []⟩,
         ⟨some 60, .bslice 31 6 1 [.v (.int .i64 0), .v (.int .i64 0), .v (.int .i64 0), .v (.bool false), .v (.string ⟨#[]⟩), .v (.int .i64 0)] [(0, (.t 59))], none, [1]⟩,
         ⟨some 61, .append 31 6 56 (.t 58) (.t 60), none, [0, 2]⟩,
         ⟨some 5, .mov (.t 61), none, [3, 3, 0, 1, 2, 3]⟩]) (
       ACode.skip))))))) (
    ACode.reg false [⟨some 62, .bin .add 3 (.t 18) (.c (.v (.int .i64 1))), none, []⟩,
      ⟨some 18, .mov (.t 62), none, [0]⟩]))))))) (
 ACode.seq (
  ACode.reg false [⟨some 63, .mov (.t 5), none, []⟩,
    ⟨some 64, .mov (.t 0), none, []⟩,
    ⟨some 65, .append 31 6 56 (.t 63) (.t 64), none, [0, 1]⟩,
    ⟨some 4, .mov (.t 65), none, [2, 2, 0, 1, 2]⟩]) (
 ACode.ret))))),
 [.tmp 4], 66⟩

/-- semvcs/semvcsref12.Put -/
def a17 : AFn := ⟨
 ACode.seq (
  ACode.reg false [⟨some 4, .mov (.c (.nils)), none, []⟩]) (
 ACode.seq (
  ACode.seq (
   ACode.reg false [⟨some 5, .mov (.t 0), none, []⟩,
     ⟨some 6, .call 12 [(.t 5)], none, [0]⟩,
     ⟨some 7, .un .not (.t 6), none, [1]⟩,
     ⟨some 8, .mov (.t 7), none, [2, 1]⟩,
     ⟨some 9, .mov (.t 1), some (8, false), [3]⟩,
     ⟨some 10, .call 14 [(.t 9)], some (8, false), [4, 3, 3]⟩,
     ⟨some 11, .un .not (.t 10), some (8, false), [5, 3]⟩,
     ⟨some 12, .pick (.t 8) (.c (.v (.bool true))) (.t 11), none, [3, 6]⟩]) (
  ACode.cond (.t 12) (
   ACode.seq (
    ACode.reg false [⟨some 4, .mov (.c (.nils)), none, []⟩]) (
   ACode.ret)) (
   ACode.skip))) (
 ACode.seq (
  ACode.reg false [⟨some 13, .mov (.t 0), none, []⟩,
    ⟨some 14, .mov (.t 1), none, []⟩,
    ⟨some 15, .call 31 [(.t 13), (.t 14)], none, [0, 1]⟩,
    ⟨some 16, .call 30 [(.t 15)], none, [2, 2]⟩,
    ⟨some 4, .mov (.t 16), none, [3, 3, 0, 1, 2, 3]⟩]) (
 ACode.ret))),
 [.tmp 4], 17⟩

/-- semvcs/cells.Diff -/
def a18 : AFn := ⟨
 ACode.seq (
  ACode.reg false [⟨some 4, .mov (.c (.nils)), none, []⟩]) (
 ACode.seq (
  ACode.seq (
   ACode.reg false [⟨some 7, .mov (.t 0), none, []⟩,
     ⟨some 8, .call 11 [(.t 7)], none, [0]⟩,
     ⟨some 9, .un .not (.t 8), none, [1]⟩,
     ⟨some 10, .mov (.t 9), none, [2, 1]⟩,
     ⟨some 11, .mov (.t 1), some (10, false), [3]⟩,
     ⟨some 12, .call 11 [(.t 11)], some (10, false), [4, 3, 3]⟩,
     ⟨some 13, .un .not (.t 12), some (10, false), [5, 3]⟩,
     ⟨some 14, .pick (.t 10) (.c (.v (.bool true))) (.t 13), none, [3, 6]⟩]) (
  ACode.cond (.t 14) (
   ACode.seq (
    ACode.reg false [⟨some 4, .mov (.c (.nils)), none, []⟩]) (
   ACode.ret)) (
   ACode.skip))) (
 ACode.seq (
  ACode.reg false [⟨some 5, .mov (.c (.nils)), none, []⟩]) (
 ACode.seq (
  ACode.block 0 (
   ACode.loop (
    ACode.seq (
     ACode.seq (
      ACode.reg false [⟨some 15, .mov (.t 0), none, []⟩,
        ⟨some 16, .len (.t 15), none, [0]⟩,
        ⟨some 17, .bin .gtr 3 (.t 16) (.c (.v (.int .i64 0))), none, [1]⟩,
        ⟨some 18, .mov (.t 17), none, [2]⟩,
        ⟨some 19, .mov (.t 1), some (18, false), [3]⟩,
        ⟨some 20, .len (.t 19), some (18, false), [4, 3]⟩,
        ⟨some 21, .bin .gtr 3 (.t 20) (.c (.v (.int .i64 0))), some (18, false), [5, 3]⟩,
        ⟨some 22, .pick (.t 18) (.c (.v (.bool true))) (.t 21), none, [3, 6]⟩]) (
     ACode.cond (.t 22) (
      ACode.skip) (
      ACode.exit 0))) (
    ACode.block 1 (
     ACode.seq (
      ACode.reg false [⟨some 6, .mov (.c (.v (.int .i64 0))), none, []⟩]) (
     ACode.seq (
      ACode.block 2 (
       ACode.seq (
        ACode.reg false [⟨some 31, .mov (.t 1), none, []⟩,
          ⟨some 32, .len (.t 31), none, [0]⟩,
          ⟨some 33, .bin .eql 3 (.t 32) (.c (.v (.int .i64 0))), none, [1]⟩,
          ⟨some 30, .mov (.t 33), none, [2]⟩]) (
       ACode.cond (.t 30) (
        ACode.reg false [⟨some 6, .mov (.c (.v (.int .i64 (-1)))), none, []⟩]) (
        ACode.seq (
         ACode.reg false [⟨some 35, .mov (.t 0), none, []⟩,
           ⟨some 36, .len (.t 35), none, [0]⟩,
           ⟨some 37, .bin .eql 3 (.t 36) (.c (.v (.int .i64 0))), none, [1]⟩,
           ⟨some 34, .mov (.t 37), none, [2]⟩]) (
        ACode.cond (.t 34) (
         ACode.reg false [⟨some 6, .mov (.c (.v (.int .i64 1))), none, []⟩]) (
         ACode.reg true [⟨some 23, .mov (.t 0), none, []⟩,
           ⟨some 24, .ia 6 (.t 23) (.c (.v (.int .i64 0))), none, [0]⟩,
           ⟨some 25, .load true 6 (.t 24), none, [1]⟩,
           ⟨some 26, .mov (.t 1), none, []⟩,
           ⟨some 27, .ia 6 (.t 26) (.c (.v (.int .i64 0))), none, [3]⟩,
           ⟨some 28, .load true 6 (.t 27), none, [4]⟩,
           ⟨some 29, .call 27 [(.t 25), (.t 28)], none, [2, 5]⟩,
           ⟨some 6, .mov (.t 29), none, [6, 6, 0, 1, 2, 3, 4, 5, 6]⟩])))))) (
     ACode.seq (
      ACode.block 3 (
       ACode.seq (
        ACode.reg false [⟨some 39, .mov (.t 6), none, []⟩,
          ⟨some 40, .bin .lss 3 (.t 39) (.c (.v (.int .i64 0))), none, [0]⟩,
          ⟨some 38, .mov (.t 40), none, [1]⟩]) (
       ACode.cond (.t 38) (
        ACode.reg true [⟨some 41, .mov (.t 5), none, []⟩,
          ⟨some 42, .mov (.t 0), none, []⟩,
          ⟨some 43, .ia 6 (.t 42) (.c (.v (.int .i64 0))), none, [1]⟩,
          ⟨some 44, .fa 0 (.t 43), none, [2]⟩,
          ⟨some 45, .load false 1 (.t 44), none, [3]⟩,
          ⟨some 46, .mov (.t 0), none, []⟩,
          ⟨some 47, .ia 6 (.t 46) (.c (.v (.int .i64 0))), none, [5]⟩,
          ⟨some 48, .fa 1 (.t 47), none, [6]⟩,
          ⟨some 49, .load false 1 (.t 48), none, [7]⟩,
          ⟨some 50, .build [.v (.int .i64 0), .v (.int .i64 0), .v (.int .i64 0), .v (.bool false), .v (.string ⟨#[]⟩), .v (.int .i64 0)] [(0, 1, (.t 45)), (1, 1, (.t 49))], none, [4, 8]⟩,
          ⟨some 51, .bslice 31 6 1 [.v (.int .i64 0), .v (.int .i64 0), .v (.int .i64 0), .v (.bool false), .v (.string ⟨#[]⟩), .v (.int .i64 0)] [(0, (.t 50))], none, [9]⟩,
          ⟨some 52, .append 31 6 56 (.t 41) (.t 51), none, [0, 10]⟩,
          ⟨some 5, .mov (.t 52), none, [11, 11, 0, 1, 2, 3, 4, 5, 6, 7, 8, 9, 10, 11]⟩]) (
        ACode.seq (
         ACode.reg true [⟨some 54, .mov (.t 6), none, []⟩,
           ⟨some 55, .bin .gtr 3 (.t 54) (.c (.v (.int .i64 0))), none, [0]⟩,
           ⟨some 56, .mov (.t 55), none, [1]⟩,
           ⟨some 57, .mov (.t 0), some (56, false), [2]⟩,
           ⟨some 58, .ia 6 (.t 57) (.c (.v (.int .i64 0))), some (56, false), [3, 2]⟩,
           ⟨some 59, .fa 2 (.t 58), some (56, false), [4, 2]⟩,
           ⟨some 60, .load true 4 (.t 59), some (56, false), [5, 2]⟩,
           ⟨some 61, .mov (.t 1), some (56, false), [2]⟩,
           ⟨some 62, .ia 6 (.t 61) (.c (.v (.int .i64 0))), some (56, false), [7, 2]⟩,
           ⟨some 63, .fa 2 (.t 62), some (56, false), [8, 2]⟩,
           ⟨some 64, .load true 4 (.t 63), some (56, false), [9, 2]⟩,
           ⟨some 65, .eqs true 28 (.t 60) (.t 64), some (56, false), [6, 10, 2]⟩,
           ⟨some 66, .pick (.t 56) (.c (.v (.bool true))) (.t 65), none, [2, 11]⟩,
           ⟨some 53, .mov (.t 66), none, [12, 2]⟩]) (
        ACode.cond (.t 53) (
         ACode.reg false [⟨some 67, .mov (.t 5), none, []⟩,
           ⟨some 68, .mov (.t 1), none, []⟩,
           ⟨some 69, .ia 6 (.t 68) (.c (.v (.int .i64 0))), none, [1]⟩,
           ⟨some 70, .load true 6 (.t 69), none, [2]⟩,
           ⟨some 71, .bslice 31 6 1 [.v (.int .i64 0), .v (.int .i64 0), .v (.int .i64 0), .v (.bool false), .v (.string ⟨#[]⟩), .v (.int .i64 0)] [(0, (.t 70))], none, [3]⟩,
           ⟨some 72, .append 31 6 56 (.t 67) (.t 71), none, [0, 4]⟩,
           ⟨some 5, .mov (.t 72), none, [5, 5, 0, 1, 2, 3, 4, 5]⟩]) (
         ACode.skip)))))) (
     ACode.seq (
      ACode.seq (
       ACode.reg false [⟨some 73, .mov (.t 6), none, []⟩,
         ⟨some 74, .bin .leq 3 (.t 73) (.c (.v (.int .i64 0))), none, [0]⟩]) (
      ACode.cond (.t 74) (
       ACode.reg false [⟨some 75, .mov (.t 0), none, []⟩,
         ⟨some 76, .slice 6 (.t 75) (some (.c (.v (.int .i64 1)))) none, none, [0]⟩,
         ⟨some 0, .mov (.t 76), none, [1, 0, 1]⟩]) (
       ACode.skip))) (
     ACode.seq (
      ACode.reg false [⟨some 77, .mov (.t 6), none, []⟩,
        ⟨some 78, .bin .geq 3 (.t 77) (.c (.v (.int .i64 0))), none, [0]⟩]) (
     ACode.cond (.t 78) (
      ACode.reg false [⟨some 79, .mov (.t 1), none, []⟩,
        ⟨some 80, .slice 6 (.t 79) (some (.c (.v (.int .i64 1)))) none, none, [0]⟩,
        ⟨some 1, .mov (.t 80), none, [1, 0, 1]⟩]) (
      ACode.skip))))))))))) (
 ACode.seq (
  ACode.reg false [⟨some 81, .mov (.t 5), none, []⟩,
    ⟨some 4, .mov (.t 81), none, [0, 0]⟩]) (
 ACode.ret))))),
 [.tmp 4], 82⟩

/-- semvcs/semvcsref12.Diff -/
def a19 : AFn := ⟨
 ACode.seq (
  ACode.reg false [⟨some 4, .mov (.c (.nils)), none, []⟩]) (
 ACode.seq (
  ACode.seq (
   ACode.reg false [⟨some 9, .mov (.t 0), none, []⟩,
     ⟨some 10, .call 12 [(.t 9)], none, [0]⟩,
     ⟨some 11, .un .not (.t 10), none, [1]⟩,
     ⟨some 12, .mov (.t 11), none, [2, 1]⟩,
     ⟨some 13, .mov (.t 1), some (12, false), [3]⟩,
     ⟨some 14, .call 12 [(.t 13)], some (12, false), [4, 3, 3]⟩,
     ⟨some 15, .un .not (.t 14), some (12, false), [5, 3]⟩,
     ⟨some 16, .pick (.t 12) (.c (.v (.bool true))) (.t 15), none, [3, 6]⟩]) (
  ACode.cond (.t 16) (
   ACode.seq (
    ACode.reg false [⟨some 4, .mov (.c (.nils)), none, []⟩]) (
   ACode.ret)) (
   ACode.skip))) (
 ACode.seq (
  ACode.reg false [⟨some 5, .mov (.c (.nils)), none, []⟩]) (
 ACode.seq (
  ACode.reg false [⟨some 17, .mov (.t 0), none, []⟩,
    ⟨some 18, .mov (.t 1), none, []⟩,
    ⟨some 19, .call 31 [(.t 17), (.t 18)], none, [0, 1]⟩,
    ⟨some 6, .mov (.t 19), none, [2, 2, 0, 1, 2]⟩]) (
 ACode.seq (
  ACode.seq (
   ACode.reg false [⟨some 7, .mov (.c (.v (.int .i64 0))), none, []⟩]) (
  ACode.block 0 (
   ACode.loop (
    ACode.seq (
     ACode.seq (
      ACode.reg false [⟨some 20, .mov (.t 7), none, []⟩,
        ⟨some 21, .mov (.t 6), none, []⟩,
        ⟨some 22, .len (.t 21), none, [1]⟩,
        ⟨some 23, .bin .lss 3 (.t 20) (.t 22), none, [0, 2]⟩]) (
     ACode.cond (.t 23) (
      ACode.skip) (
      ACode.exit 0))) (
    ACode.seq (
     ACode.block 1 (
      ACode.seq (
       ACode.reg true [⟨some 26, .mov (.t 1), none, []⟩,
         ⟨some 27, .mov (.t 6), none, []⟩,
         ⟨some 28, .mov (.t 7), none, []⟩,
         ⟨some 29, .ia 6 (.t 27) (.t 28), none, [1, 2]⟩,
         ⟨some 30, .fa 0 (.t 29), none, [3]⟩,
         ⟨some 31, .load false 1 (.t 30), none, [4]⟩,
         ⟨some 32, .mov (.t 6), none, []⟩,
         ⟨some 33, .mov (.t 7), none, []⟩,
         ⟨some 34, .ia 6 (.t 32) (.t 33), none, [6, 7]⟩,
         ⟨some 35, .fa 1 (.t 34), none, [8]⟩,
         ⟨some 36, .load false 1 (.t 35), none, [9]⟩,
         ⟨some 37, .call 22 [(.t 26), (.t 31), (.t 36)], none, [0, 5, 10]⟩,
         ⟨some 8, .new 28 [.v (.int .i64 0), .v (.bool false), .v (.string ⟨#[]⟩), .v (.int .i64 0)], none, []⟩,
         ⟨none, .store 4 (.t 8) (.t 37), none, [12, 11, 11, 0, 1, 2, 3, 4, 5, 6, 7, 8, 9, 10, 11, 12]⟩]) (
      ACode.seq (
       ACode.reg true [⟨some 38, .load true 4 (.t 8), none, []⟩,
         ⟨some 39, .mov (.t 0), none, []⟩,
         ⟨some 40, .mov (.t 6), none, []⟩,
         ⟨some 41, .mov (.t 7), none, []⟩,
         ⟨some 42, .ia 6 (.t 40) (.t 41), none, [2, 3]⟩,
         ⟨some 43, .fa 0 (.t 42), none, [4]⟩,
         ⟨some 44, .load false 1 (.t 43), none, [5]⟩,
         ⟨some 45, .mov (.t 6), none, []⟩,
         ⟨some 46, .mov (.t 7), none, []⟩,
         ⟨some 47, .ia 6 (.t 45) (.t 46), none, [7, 8]⟩,
         ⟨some 48, .fa 1 (.t 47), none, [9]⟩,
         ⟨some 49, .load false 1 (.t 48), none, [10]⟩,
         ⟨some 50, .call 22 [(.t 39), (.t 44), (.t 49)], none, [1, 6, 11]⟩,
         ⟨some 51, .eqs true 28 (.t 38) (.t 50), none, [0, 12]⟩]) (
      ACode.cond (.t 51) (
       ACode.reg true [⟨some 52, .mov (.t 5), none, []⟩,
         ⟨some 53, .mov (.t 6), none, []⟩,
         ⟨some 54, .mov (.t 7), none, []⟩,
         ⟨some 55, .ia 6 (.t 53) (.t 54), none, [1, 2]⟩,
         ⟨some 56, .fa 0 (.t 55), none, [3]⟩,
         ⟨some 57, .load false 1 (.t 56), none, [4]⟩,
         ⟨some 58, .mov (.t 6), none, []⟩,
         ⟨some 59, .mov (.t 7), none, []⟩,
         ⟨some 60, .ia 6 (.t 58) (.t 59), none, [6, 7]⟩,
         ⟨some 61, .fa 1 (.t 60), none, [8]⟩,
         ⟨some 62, .load false 1 (.t 61), none, [9]⟩,
         ⟨some 63, .load true 4 (.t 8), none, []⟩,
         ⟨some 64, .build [.v (.int .i64 0), .v (.int .i64 0), .v (.int .i64 0), .v (.bool false), .v (.string ⟨#[]⟩), .v (.int .i64 0)] [(0, 1, (.t 57)), (1, 1, (.t 62)), (2, 4, (.t 63))], none, [5, 10, 11]⟩,
         ⟨some 65, .bslice 31 6 1 [.v (.int .i64 0), .v (.int .i64 0), .v (.int .i64 0), .v (.bool false), .v (.string ⟨#[]⟩), .v (.int .i64 0)] [(0, (.t 64))], none, [12]⟩,
         ⟨some 66, .append 31 6 56 (.t 52) (.t 65), none, [0, 13]⟩,
         ⟨some 5, .mov (.t 66), none, [14, 14, 0, 1, 2, 3, 4, 5, 6, 7, 8, 9, 10, 11, 12, 13, 14]⟩]) (
       ACode.skip))))) (
    ACode.reg false [⟨some 24, .mov (.t 7), none, []⟩,
      ⟨some 25, .bin .add 3 (.t 24) (.c (.v (.int .i64 1))), none, [0]⟩,
      ⟨some 7, .mov (.t 25), none, [1, 0, 1]⟩])))))) (
 ACode.seq (
  ACode.reg false [⟨some 67, .mov (.t 5), none, []⟩,
    ⟨some 4, .mov (.t 67), none, [0, 0]⟩]) (
 ACode.ret)))))),
 [.tmp 4], 68⟩

/-- semvcs/cells.Get -/
def a20 : AFn := ⟨
 ACode.seq (
  ACode.reg false [⟨some 6, .new 28 [.v (.int .i64 0), .v (.bool false), .v (.string ⟨#[]⟩), .v (.int .i64 0)], none, []⟩]) (
 ACode.seq (
  ACode.seq (
   ACode.reg false [⟨some 9, .mov (.t 0), none, []⟩,
     ⟨some 10, .len (.t 9), none, [0]⟩,
     ⟨some 11, .mov (.c (.v (.int .i64 0))), none, []⟩]) (
  ACode.block 0 (
   ACode.loop (
    ACode.seq (
     ACode.reg false [⟨some 12, .bin .lss 3 (.t 11) (.t 10), none, []⟩]) (
    ACode.seq (
     ACode.cond (.t 12) (
      ACode.skip) (
      ACode.exit 0)) (
    ACode.seq (
     ACode.block 1 (
      ACode.seq (
       ACode.reg false [⟨some 13, .ia 6 (.t 9) (.t 11), none, []⟩,
         ⟨some 14, .load true 6 (.t 13), none, [0]⟩,
         ⟨some 8, .new 31 [.v (.int .i64 0), .v (.int .i64 0), .v (.int .i64 0), .v (.bool false), .v (.string ⟨#[]⟩), .v (.int .i64 0)], none, []⟩,
         ⟨none, .store 6 (.t 8) (.t 14), none, [2, 1, 0, 1, 2]⟩]) (
      ACode.seq (
       ACode.reg false [⟨some 15, .fa 0 (.t 8), none, []⟩,
         ⟨some 16, .load false 1 (.t 15), none, [0]⟩,
         ⟨some 17, .mov (.t 1), none, []⟩,
         ⟨some 18, .bin .eql 3 (.t 16) (.t 17), none, [1, 2]⟩,
         ⟨some 19, .mov (.t 18), none, [3]⟩,
         ⟨some 20, .fa 1 (.t 8), some (19, true), [4]⟩,
         ⟨some 21, .load false 1 (.t 20), some (19, true), [5, 4]⟩,
         ⟨some 22, .mov (.t 2), some (19, true), [4]⟩,
         ⟨some 23, .bin .eql 3 (.t 21) (.t 22), some (19, true), [6, 7, 4]⟩,
         ⟨some 24, .pick (.t 19) (.t 23) (.c (.v (.bool false))), none, [4, 8]⟩]) (
      ACode.cond (.t 24) (
       ACode.seq (
        ACode.reg false [⟨some 25, .fa 2 (.t 8), none, []⟩,
          ⟨some 26, .load true 4 (.t 25), none, [0]⟩,
          ⟨none, .store 4 (.t 6) (.t 26), none, [1, 0, 1]⟩]) (
       ACode.ret)) (
       ACode.skip))))) (
    ACode.reg false [⟨some 27, .bin .add 3 (.t 11) (.c (.v (.int .i64 1))), none, []⟩,
      ⟨some 11, .mov (.t 27), none, [0]⟩]))))))) (
 ACode.seq (
  ACode.reg false [⟨some 28, .build [.v (.int .i64 0), .v (.bool false), .v (.string ⟨#[]⟩), .v (.int .i64 0)] [], none, []⟩,
    ⟨none, .store 4 (.t 6) (.t 28), none, [0, 0]⟩]) (
 ACode.ret))),
 [.cell 6 true 4], 29⟩

/-- semvcs/semvcsref12.Register -/
def a21 : AFn := ⟨
 ACode.seq (
  ACode.reg false [⟨some 2, .box 31 (.t 0), none, []⟩,
    ⟨some 3, .box 31 (.t 1), none, []⟩,
    ⟨some 4, .mov (.c (.v (.bool false))), none, []⟩]) (
 ACode.seq (
  ACode.reg false [⟨some 5, .fa 0 (.t 2), none, []⟩,
    ⟨some 6, .load false 1 (.t 5), none, [0]⟩,
    ⟨some 7, .fa 0 (.t 3), none, []⟩,
    ⟨some 8, .load false 1 (.t 7), none, [2]⟩,
    ⟨some 9, .bin .eql 3 (.t 6) (.t 8), none, [1, 3]⟩,
    ⟨some 10, .mov (.t 9), none, [4]⟩,
    ⟨some 11, .fa 1 (.t 2), some (10, true), [5]⟩,
    ⟨some 12, .load false 1 (.t 11), some (10, true), [6, 5]⟩,
    ⟨some 13, .fa 1 (.t 3), some (10, true), [5]⟩,
    ⟨some 14, .load false 1 (.t 13), some (10, true), [8, 5]⟩,
    ⟨some 15, .bin .eql 3 (.t 12) (.t 14), some (10, true), [7, 9, 5]⟩,
    ⟨some 16, .pick (.t 10) (.t 15) (.c (.v (.bool false))), none, [5, 10]⟩,
    ⟨some 4, .mov (.t 16), none, [11, 5, 0, 1, 2, 3, 4, 5, 6, 7, 8, 9, 10, 11]⟩]) (
 ACode.ret)),
 [.tmp 4], 17⟩

/-- semvcs/semvcsref12.Get -/
def a22 : AFn := ⟨
 ACode.seq (
  ACode.reg false [⟨some 6, .new 28 [.v (.int .i64 0), .v (.bool false), .v (.string ⟨#[]⟩), .v (.int .i64 0)], none, []⟩]) (
 ACode.seq (
  ACode.seq (
   ACode.reg false [⟨some 7, .mov (.c (.v (.int .i64 0))), none, []⟩]) (
  ACode.block 0 (
   ACode.loop (
    ACode.seq (
     ACode.seq (
      ACode.reg false [⟨some 8, .mov (.t 7), none, []⟩,
        ⟨some 9, .mov (.t 0), none, []⟩,
        ⟨some 10, .len (.t 9), none, [1]⟩,
        ⟨some 11, .bin .lss 3 (.t 8) (.t 10), none, [0, 2]⟩]) (
     ACode.cond (.t 11) (
      ACode.skip) (
      ACode.exit 0))) (
    ACode.seq (
     ACode.block 1 (
      ACode.seq (
       ACode.reg false [⟨some 14, .mov (.t 0), none, []⟩,
         ⟨some 15, .mov (.t 7), none, []⟩,
         ⟨some 16, .ia 6 (.t 14) (.t 15), none, [0, 1]⟩,
         ⟨some 17, .fa 0 (.t 16), none, [2]⟩,
         ⟨some 18, .load false 1 (.t 17), none, [3]⟩,
         ⟨some 19, .mov (.t 1), none, []⟩,
         ⟨some 20, .bin .eql 3 (.t 18) (.t 19), none, [4, 5]⟩,
         ⟨some 21, .mov (.t 20), none, [6]⟩,
         ⟨some 22, .mov (.t 0), some (21, true), [7]⟩,
         ⟨some 23, .mov (.t 7), some (21, true), [7]⟩,
         ⟨some 24, .ia 6 (.t 22) (.t 23), some (21, true), [8, 9, 7]⟩,
         ⟨some 25, .fa 1 (.t 24), some (21, true), [10, 7]⟩,
         ⟨some 26, .load false 1 (.t 25), some (21, true), [11, 7]⟩,
         ⟨some 27, .mov (.t 2), some (21, true), [7]⟩,
         ⟨some 28, .bin .eql 3 (.t 26) (.t 27), some (21, true), [12, 13, 7]⟩,
         ⟨some 29, .pick (.t 21) (.t 28) (.c (.v (.bool false))), none, [7, 14]⟩]) (
      ACode.cond (.t 29) (
       ACode.seq (
        ACode.reg false [⟨some 30, .mov (.t 0), none, []⟩,
          ⟨some 31, .mov (.t 7), none, []⟩,
          ⟨some 32, .ia 6 (.t 30) (.t 31), none, [0, 1]⟩,
          ⟨some 33, .fa 2 (.t 32), none, [2]⟩,
          ⟨some 34, .load true 4 (.t 33), none, [3]⟩,
          ⟨none, .store 4 (.t 6) (.t 34), none, [4, 0, 1, 2, 3, 4]⟩]) (
       ACode.ret)) (
       ACode.skip)))) (
    ACode.reg false [⟨some 12, .mov (.t 7), none, []⟩,
      ⟨some 13, .bin .add 3 (.t 12) (.c (.v (.int .i64 1))), none, [0]⟩,
      ⟨some 7, .mov (.t 13), none, [1, 0, 1]⟩])))))) (
 ACode.seq (
  ACode.reg false [⟨some 35, .build [.v (.int .i64 0), .v (.bool false), .v (.string ⟨#[]⟩), .v (.int .i64 0)] [], none, []⟩,
    ⟨none, .store 4 (.t 6) (.t 35), none, [0, 0]⟩]) (
 ACode.ret))),
 [.cell 6 true 4], 36⟩

/-- semvcs/cells.Of -/
def a23 : AFn := ⟨
 ACode.seq (
  ACode.reg false [⟨some 4, .mov (.c (.nils)), none, []⟩]) (
 ACode.seq (
  ACode.reg false [⟨some 5, .mov (.c (.nils)), none, []⟩]) (
 ACode.seq (
  ACode.seq (
   ACode.reg false [⟨some 8, .mov (.t 0), none, []⟩,
     ⟨some 9, .len (.t 8), none, [0]⟩,
     ⟨some 10, .mov (.c (.v (.int .i64 0))), none, []⟩]) (
  ACode.block 0 (
   ACode.loop (
    ACode.seq (
     ACode.reg false [⟨some 11, .bin .lss 3 (.t 10) (.t 9), none, []⟩]) (
    ACode.seq (
     ACode.cond (.t 11) (
      ACode.skip) (
      ACode.exit 0)) (
    ACode.seq (
     ACode.block 1 (
      ACode.seq (
       ACode.reg false [⟨some 12, .ia 6 (.t 8) (.t 10), none, []⟩,
         ⟨some 13, .load true 6 (.t 12), none, [0]⟩,
         ⟨some 7, .new 31 [.v (.int .i64 0), .v (.int .i64 0), .v (.int .i64 0), .v (.bool false), .v (.string ⟨#[]⟩), .v (.int .i64 0)], none, []⟩,
         ⟨none, .store 6 (.t 7) (.t 13), none, [2, 1, 0, 1, 2]⟩]) (
      ACode.seq (
       ACode.reg false [⟨some 14, .fa 0 (.t 7), none, []⟩,
         ⟨some 15, .load false 1 (.t 14), none, [0]⟩,
         ⟨some 16, .mov (.t 1), none, []⟩,
         ⟨some 17, .bin .eql 3 (.t 15) (.t 16), none, [1, 2]⟩]) (
      ACode.cond (.t 17) (
       ACode.reg false [⟨some 18, .mov (.t 5), none, []⟩,
         ⟨some 19, .load true 6 (.t 7), none, []⟩,
         ⟨some 20, .bslice 31 6 1 [.v (.int .i64 0), .v (.int .i64 0), .v (.int .i64 0), .v (.bool false), .v (.string ⟨#[]⟩), .v (.int .i64 0)] [(0, (.t 19))], none, [1]⟩,
         ⟨some 21, .append 31 6 56 (.t 18) (.t 20), none, [0, 2]⟩,
         ⟨some 5, .mov (.t 21), none, [3, 3, 0, 1, 2, 3]⟩]) (
       ACode.skip))))) (
    ACode.reg false [⟨some 22, .bin .add 3 (.t 10) (.c (.v (.int .i64 1))), none, []⟩,
      ⟨some 10, .mov (.t 22), none, [0]⟩]))))))) (
 ACode.seq (
  ACode.reg false [⟨some 23, .mov (.t 5), none, []⟩,
    ⟨some 4, .mov (.t 23), none, [0, 0]⟩]) (
 ACode.ret)))),
 [.tmp 4], 24⟩

/-- semvcs/semvcsref12.Of -/
def a24 : AFn := ⟨
 ACode.seq (
  ACode.reg false [⟨some 4, .mov (.c (.nils)), none, []⟩]) (
 ACode.seq (
  ACode.reg false [⟨some 5, .mov (.c (.nils)), none, []⟩]) (
 ACode.seq (
  ACode.seq (
   ACode.reg false [⟨some 6, .mov (.c (.v (.int .i64 0))), none, []⟩]) (
  ACode.block 0 (
   ACode.loop (
    ACode.seq (
     ACode.seq (
      ACode.reg false [⟨some 7, .mov (.t 6), none, []⟩,
        ⟨some 8, .mov (.t 0), none, []⟩,
        ⟨some 9, .len (.t 8), none, [1]⟩,
        ⟨some 10, .bin .lss 3 (.t 7) (.t 9), none, [0, 2]⟩]) (
     ACode.cond (.t 10) (
      ACode.skip) (
      ACode.exit 0))) (
    ACode.seq (
     ACode.block 1 (
      ACode.seq (
       ACode.reg false [⟨some 13, .mov (.t 0), none, []⟩,
         ⟨some 14, .mov (.t 6), none, []⟩,
         ⟨some 15, .ia 6 (.t 13) (.t 14), none, [0, 1]⟩,
         ⟨some 16, .fa 0 (.t 15), none, [2]⟩,
         ⟨some 17, .load false 1 (.t 16), none, [3]⟩,
         ⟨some 18, .mov (.t 1), none, []⟩,
         ⟨some 19, .bin .eql 3 (.t 17) (.t 18), none, [4, 5]⟩]) (
      ACode.cond (.t 19) (
       ACode.reg false [⟨some 20, .mov (.t 5), none, []⟩,
         ⟨some 21, .mov (.t 0), none, []⟩,
         ⟨some 22, .mov (.t 6), none, []⟩,
         ⟨some 23, .ia 6 (.t 21) (.t 22), none, [1, 2]⟩,
         ⟨some 24, .load true 6 (.t 23), none, [3]⟩,
         ⟨some 25, .bslice 31 6 1 [.v (.int .i64 0), .v (.int .i64 0), .v (.int .i64 0), .v (.bool false), .v (.string ⟨#[]⟩), .v (.int .i64 0)] [(0, (.t 24))], none, [4]⟩,
         ⟨some 26, .append 31 6 56 (.t 20) (.t 25), none, [0, 5]⟩,
         ⟨some 5, .mov (.t 26), none, [6, 6, 0, 1, 2, 3, 4, 5, 6]⟩]) (
       ACode.skip)))) (
    ACode.reg false [⟨some 11, .mov (.t 6), none, []⟩,
      ⟨some 12, .bin .add 3 (.t 11) (.c (.v (.int .i64 1))), none, [0]⟩,
      ⟨some 6, .mov (.t 12), none, [1, 0, 1]⟩])))))) (
 ACode.seq (
  ACode.reg false [⟨some 27, .mov (.t 5), none, []⟩,
    ⟨some 4, .mov (.t 27), none, [0, 0]⟩]) (
 ACode.ret)))),
 [.tmp 4], 28⟩

/-- semvcs/semvcslaw12.one -/
def a25 : AFn := ⟨
 ACode.seq (
  ACode.reg false [⟨some 3, .box 28 (.t 1), none, []⟩,
    ⟨some 4, .mov (.c (.nils)), none, []⟩]) (
 ACode.seq (
  ACode.reg false [⟨some 5, .mov (.t 0), none, []⟩,
    ⟨some 6, .load true 4 (.t 3), none, []⟩,
    ⟨some 7, .build [.v (.int .i64 0), .v (.int .i64 0), .v (.int .i64 0), .v (.bool false), .v (.string ⟨#[]⟩), .v (.int .i64 0)] [(0, 1, (.c (.v (.int .i64 1048577)))), (1, 1, (.t 5)), (2, 4, (.t 6))], none, [0, 1]⟩,
    ⟨some 8, .bslice 31 6 1 [.v (.int .i64 0), .v (.int .i64 0), .v (.int .i64 0), .v (.bool false), .v (.string ⟨#[]⟩), .v (.int .i64 0)] [(0, (.t 7))], none, [2]⟩,
    ⟨some 4, .mov (.t 8), none, [3, 0, 1, 2, 3]⟩]) (
 ACode.ret)),
 [.tmp 4], 9⟩

/-- semvcs/ident.Valid -/
def a26 : AFn := ⟨
 ACode.seq (
  ACode.reg false [⟨some 2, .mov (.c (.v (.bool false))), none, []⟩]) (
 ACode.seq (
  ACode.reg false [⟨some 3, .mov (.t 0), none, []⟩,
    ⟨some 4, .call 32 [(.t 3)], none, [0]⟩,
    ⟨some 5, .mov (.t 4), none, [1, 1]⟩,
    ⟨some 6, .mov (.t 0), some (5, true), [2]⟩,
    ⟨some 7, .bin .and 3 (.t 6) (.c (.v (.int .i64 1048575))), some (5, true), [3, 2]⟩,
    ⟨some 8, .bin .neq 3 (.t 7) (.c (.v (.int .i64 0))), some (5, true), [4, 2]⟩,
    ⟨some 9, .pick (.t 5) (.t 8) (.c (.v (.bool false))), none, [2, 5]⟩,
    ⟨some 2, .mov (.t 9), none, [6, 2, 0, 1, 2, 3, 4, 5, 6]⟩]) (
 ACode.ret)),
 [.tmp 2], 10⟩

/-- semvcs/cells.compare -/
def a27 : AFn := ⟨
 ACode.seq (
  ACode.reg false [⟨some 2, .box 31 (.t 0), none, []⟩,
    ⟨some 3, .box 31 (.t 1), none, []⟩,
    ⟨some 4, .mov (.c (.v (.int .i64 0))), none, []⟩]) (
 ACode.seq (
  ACode.seq (
   ACode.reg false [⟨some 6, .fa 0 (.t 2), none, []⟩,
     ⟨some 7, .load false 1 (.t 6), none, [0]⟩,
     ⟨some 8, .fa 0 (.t 3), none, []⟩,
     ⟨some 9, .load false 1 (.t 8), none, [2]⟩,
     ⟨some 10, .call 33 [(.t 7), (.t 9)], none, [1, 3]⟩,
     ⟨some 5, .mov (.t 10), none, [4, 4, 0, 1, 2, 3, 4]⟩]) (
  ACode.seq (
   ACode.reg false [⟨some 11, .mov (.t 5), none, []⟩,
     ⟨some 12, .bin .neq 3 (.t 11) (.c (.v (.int .i64 0))), none, [0]⟩]) (
  ACode.cond (.t 12) (
   ACode.seq (
    ACode.reg false [⟨some 13, .mov (.t 5), none, []⟩,
      ⟨some 4, .mov (.t 13), none, [0, 0]⟩]) (
   ACode.ret)) (
   ACode.skip)))) (
 ACode.seq (
  ACode.reg false [⟨some 14, .fa 1 (.t 2), none, []⟩,
    ⟨some 15, .load false 1 (.t 14), none, [0]⟩,
    ⟨some 16, .fa 1 (.t 3), none, []⟩,
    ⟨some 17, .load false 1 (.t 16), none, [2]⟩,
    ⟨some 18, .call 33 [(.t 15), (.t 17)], none, [1, 3]⟩,
    ⟨some 4, .mov (.t 18), none, [4, 4, 0, 1, 2, 3, 4]⟩]) (
 ACode.ret))),
 [.tmp 4], 19⟩

/-- semvcs/semvcsref10.Valid -/
def a28 : AFn := ⟨
 ACode.seq (
  ACode.reg false [⟨some 2, .mov (.c (.v (.bool false))), none, []⟩]) (
 ACode.seq (
  ACode.reg false [⟨some 3, .mov (.t 0), none, []⟩,
    ⟨some 4, .bin .gtr 3 (.t 3) (.c (.v (.int .i64 1048576))), none, [0]⟩,
    ⟨some 5, .mov (.t 4), none, [1]⟩,
    ⟨some 6, .mov (.t 0), some (5, true), [2]⟩,
    ⟨some 7, .bin .lss 3 (.t 6) (.c (.v (.int .i64 34603008))), some (5, true), [3, 2]⟩,
    ⟨some 8, .pick (.t 5) (.t 7) (.c (.v (.bool false))), none, [2, 4]⟩,
    ⟨some 9, .mov (.t 8), none, [5, 2]⟩,
    ⟨some 10, .mov (.t 0), some (9, true), [6]⟩,
    ⟨some 11, .bin .rem 3 (.t 10) (.c (.v (.int .i64 1048576))), some (9, true), [7, 6]⟩,
    ⟨some 12, .bin .neq 3 (.t 11) (.c (.v (.int .i64 0))), some (9, true), [8, 6]⟩,
    ⟨some 13, .pick (.t 9) (.t 12) (.c (.v (.bool false))), none, [6, 9]⟩,
    ⟨some 2, .mov (.t 13), none, [10, 6, 0, 1, 2, 3, 4, 5, 6, 7, 8, 9, 10]⟩]) (
 ACode.ret)),
 [.tmp 2], 14⟩

/-- semvcs/semvcsref12.Ahead -/
def a29 : AFn := ⟨
 ACode.seq (
  ACode.reg false [⟨some 2, .box 31 (.t 0), none, []⟩,
    ⟨some 3, .box 31 (.t 1), none, []⟩,
    ⟨some 4, .mov (.c (.v (.bool false))), none, []⟩]) (
 ACode.seq (
  ACode.seq (
   ACode.reg false [⟨some 5, .fa 0 (.t 2), none, []⟩,
     ⟨some 6, .load false 1 (.t 5), none, [0]⟩,
     ⟨some 7, .fa 0 (.t 3), none, []⟩,
     ⟨some 8, .load false 1 (.t 7), none, [2]⟩,
     ⟨some 9, .bin .neq 3 (.t 6) (.t 8), none, [1, 3]⟩]) (
  ACode.cond (.t 9) (
   ACode.seq (
    ACode.reg false [⟨some 10, .fa 0 (.t 2), none, []⟩,
      ⟨some 11, .load false 1 (.t 10), none, [0]⟩,
      ⟨some 12, .fa 0 (.t 3), none, []⟩,
      ⟨some 13, .load false 1 (.t 12), none, [2]⟩,
      ⟨some 14, .bin .lss 3 (.t 11) (.t 13), none, [1, 3]⟩,
      ⟨some 4, .mov (.t 14), none, [4, 0, 1, 2, 3, 4]⟩]) (
   ACode.ret)) (
   ACode.skip))) (
 ACode.seq (
  ACode.reg false [⟨some 15, .fa 1 (.t 2), none, []⟩,
    ⟨some 16, .load false 1 (.t 15), none, [0]⟩,
    ⟨some 17, .fa 1 (.t 3), none, []⟩,
    ⟨some 18, .load false 1 (.t 17), none, [2]⟩,
    ⟨some 19, .bin .lss 3 (.t 16) (.t 18), none, [1, 3]⟩,
    ⟨some 4, .mov (.t 19), none, [4, 0, 1, 2, 3, 4]⟩]) (
 ACode.ret))),
 [.tmp 4], 20⟩

/-- semvcs/semvcsref12.Solid -/
def a30 : AFn := ⟨
 ACode.seq (
  ACode.reg false [⟨some 2, .mov (.c (.nils)), none, []⟩]) (
 ACode.seq (
  ACode.reg false [⟨some 3, .mov (.c (.nils)), none, []⟩]) (
 ACode.seq (
  ACode.seq (
   ACode.reg false [⟨some 4, .mov (.c (.v (.int .i64 0))), none, []⟩]) (
  ACode.block 0 (
   ACode.loop (
    ACode.seq (
     ACode.seq (
      ACode.reg false [⟨some 5, .mov (.t 4), none, []⟩,
        ⟨some 6, .mov (.t 0), none, []⟩,
        ⟨some 7, .len (.t 6), none, [1]⟩,
        ⟨some 8, .bin .lss 3 (.t 5) (.t 7), none, [0, 2]⟩]) (
     ACode.cond (.t 8) (
      ACode.skip) (
      ACode.exit 0))) (
    ACode.seq (
     ACode.block 1 (
      ACode.seq (
       ACode.reg false [⟨some 11, .mov (.t 0), none, []⟩,
         ⟨some 12, .mov (.t 4), none, []⟩,
         ⟨some 13, .ia 6 (.t 11) (.t 12), none, [0, 1]⟩,
         ⟨some 14, .fa 2 (.t 13), none, [2]⟩,
         ⟨some 15, .load true 4 (.t 14), none, [3]⟩,
         ⟨some 16, .build [.v (.int .i64 0), .v (.bool false), .v (.string ⟨#[]⟩), .v (.int .i64 0)] [], none, []⟩,
         ⟨some 17, .eqs true 28 (.t 15) (.t 16), none, [4, 5]⟩]) (
      ACode.cond (.t 17) (
       ACode.reg false [⟨some 18, .mov (.t 3), none, []⟩,
         ⟨some 19, .mov (.t 0), none, []⟩,
         ⟨some 20, .mov (.t 4), none, []⟩,
         ⟨some 21, .ia 6 (.t 19) (.t 20), none, [1, 2]⟩,
         ⟨some 22, .load true 6 (.t 21), none, [3]⟩,
         ⟨some 23, .bslice 31 6 1 [.v (.int .i64 0), .v (.int .i64 0), .v (.int .i64 0), .v (.bool false), .v (.string ⟨#[]⟩), .v (.int .i64 0)] [(0, (.t 22))], none, [4]⟩,
         ⟨some 24, .append 31 6 56 (.t 18) (.t 23), none, [0, 5]⟩,
         ⟨some 3, .mov (.t 24), none, [6, 6, 0, 1, 2, 3, 4, 5, 6]⟩]) (
       ACode.skip)))) (
    ACode.reg false [⟨some 9, .mov (.t 4), none, []⟩,
      ⟨some 10, .bin .add 3 (.t 9) (.c (.v (.int .i64 1))), none, [0]⟩,
      ⟨some 4, .mov (.t 10), none, [1, 0, 1]⟩])))))) (
 ACode.seq (
  ACode.reg false [⟨some 25, .mov (.t 3), none, []⟩,
    ⟨some 2, .mov (.t 25), none, [0, 0]⟩]) (
 ACode.ret)))),
 [.tmp 2], 26⟩

/-- semvcs/semvcsref12.Over -/
def a31 : AFn := ⟨
 ACode.seq (
  ACode.reg false [⟨some 4, .mov (.c (.nils)), none, []⟩]) (
 ACode.seq (
  ACode.reg false [⟨some 5, .mov (.c (.nils)), none, []⟩]) (
 ACode.seq (
  ACode.reg false [⟨some 6, .mov (.c (.v (.int .i64 0))), none, []⟩,
    ⟨some 7, .mov (.c (.v (.int .i64 0))), none, [0, 0]⟩]) (
 ACode.seq (
  ACode.block 0 (
   ACode.loop (
    ACode.seq (
     ACode.seq (
      ACode.reg false [⟨some 8, .mov (.t 6), none, []⟩,
        ⟨some 9, .mov (.t 0), none, []⟩,
        ⟨some 10, .len (.t 9), none, [1]⟩,
        ⟨some 11, .bin .lss 3 (.t 8) (.t 10), none, [0, 2]⟩,
        ⟨some 12, .mov (.t 11), none, [3]⟩,
        ⟨some 13, .mov (.t 7), some (12, false), [4]⟩,
        ⟨some 14, .mov (.t 1), some (12, false), [4]⟩,
        ⟨some 15, .len (.t 14), some (12, false), [6, 4]⟩,
        ⟨some 16, .bin .lss 3 (.t 13) (.t 15), some (12, false), [5, 7, 4]⟩,
        ⟨some 17, .pick (.t 12) (.c (.v (.bool true))) (.t 16), none, [4, 8]⟩]) (
     ACode.cond (.t 17) (
      ACode.skip) (
      ACode.exit 0))) (
    ACode.block 1 (
     ACode.block 2 (
      ACode.seq (
       ACode.reg true [⟨some 28, .mov (.t 7), none, []⟩,
         ⟨some 29, .mov (.t 1), none, []⟩,
         ⟨some 30, .len (.t 29), none, [1]⟩,
         ⟨some 31, .bin .eql 3 (.t 28) (.t 30), none, [0, 2]⟩,
         ⟨some 32, .mov (.t 31), none, [3]⟩,
         ⟨some 33, .mov (.t 6), some (32, false), [4]⟩,
         ⟨some 34, .mov (.t 0), some (32, false), [4]⟩,
         ⟨some 35, .len (.t 34), some (32, false), [6, 4]⟩,
         ⟨some 36, .bin .lss 3 (.t 33) (.t 35), some (32, false), [5, 7, 4]⟩,
         ⟨some 37, .mov (.t 36), some (32, false), [8, 4, 4]⟩,
         ⟨some 38, .mov (.t 0), some (37, true), [9]⟩,
         ⟨some 39, .mov (.t 6), some (37, true), [9]⟩,
         ⟨some 40, .ia 6 (.t 38) (.t 39), some (37, true), [10, 11, 9]⟩,
         ⟨some 41, .load true 6 (.t 40), some (37, true), [12, 9]⟩,
         ⟨some 42, .mov (.t 1), some (37, true), [9]⟩,
         ⟨some 43, .mov (.t 7), some (37, true), [9]⟩,
         ⟨some 44, .ia 6 (.t 42) (.t 43), some (37, true), [14, 15, 9]⟩,
         ⟨some 45, .load true 6 (.t 44), some (37, true), [16, 9]⟩,
         ⟨some 46, .call 29 [(.t 41), (.t 45)], some (37, true), [13, 17, 9, 9]⟩,
         ⟨some 47, .pick (.t 37) (.t 46) (.c (.v (.bool false))), some (32, false), [9, 18, 4]⟩,
         ⟨some 48, .pick (.t 32) (.c (.v (.bool true))) (.t 47), none, [4, 19]⟩,
         ⟨some 27, .mov (.t 48), none, [20, 18]⟩]) (
      ACode.cond (.t 27) (
       ACode.seq (
        ACode.reg false [⟨some 49, .mov (.t 5), none, []⟩,
          ⟨some 50, .mov (.t 0), none, []⟩,
          ⟨some 51, .mov (.t 6), none, []⟩,
          ⟨some 52, .ia 6 (.t 50) (.t 51), none, [1, 2]⟩,
          ⟨some 53, .load true 6 (.t 52), none, [3]⟩,
          ⟨some 54, .bslice 31 6 1 [.v (.int .i64 0), .v (.int .i64 0), .v (.int .i64 0), .v (.bool false), .v (.string ⟨#[]⟩), .v (.int .i64 0)] [(0, (.t 53))], none, [4]⟩,
          ⟨some 55, .append 31 6 56 (.t 49) (.t 54), none, [0, 5]⟩,
          ⟨some 5, .mov (.t 55), none, [6, 6, 0, 1, 2, 3, 4, 5, 6]⟩]) (
       ACode.reg false [⟨some 56, .mov (.t 6), none, []⟩,
         ⟨some 57, .bin .add 3 (.t 56) (.c (.v (.int .i64 1))), none, [0]⟩,
         ⟨some 6, .mov (.t 57), none, [1, 0, 1]⟩])) (
       ACode.seq (
        ACode.reg true [⟨some 59, .mov (.t 6), none, []⟩,
          ⟨some 60, .mov (.t 0), none, []⟩,
          ⟨some 61, .len (.t 60), none, [1]⟩,
          ⟨some 62, .bin .lss 3 (.t 59) (.t 61), none, [0, 2]⟩,
          ⟨some 63, .mov (.t 62), none, [3]⟩,
          ⟨some 64, .mov (.t 0), some (63, true), [4]⟩,
          ⟨some 65, .mov (.t 6), some (63, true), [4]⟩,
          ⟨some 66, .ia 6 (.t 64) (.t 65), some (63, true), [5, 6, 4]⟩,
          ⟨some 67, .load true 6 (.t 66), some (63, true), [7, 4]⟩,
          ⟨some 68, .mov (.t 1), some (63, true), [4]⟩,
          ⟨some 69, .mov (.t 7), some (63, true), [4]⟩,
          ⟨some 70, .ia 6 (.t 68) (.t 69), some (63, true), [9, 10, 4]⟩,
          ⟨some 71, .load true 6 (.t 70), some (63, true), [11, 4]⟩,
          ⟨some 72, .call 21 [(.t 67), (.t 71)], some (63, true), [8, 12, 4, 4]⟩,
          ⟨some 73, .pick (.t 63) (.t 72) (.c (.v (.bool false))), none, [4, 13]⟩,
          ⟨some 58, .mov (.t 73), none, [14, 13]⟩]) (
       ACode.cond (.t 58) (
        ACode.reg false [⟨some 74, .mov (.t 6), none, []⟩,
          ⟨some 75, .bin .add 3 (.t 74) (.c (.v (.int .i64 1))), none, [0]⟩,
          ⟨some 6, .mov (.t 75), none, [1, 0, 1]⟩]) (
        ACode.seq (
         ACode.reg false [⟨some 18, .mov (.t 5), none, []⟩,
           ⟨some 19, .mov (.t 1), none, []⟩,
           ⟨some 20, .mov (.t 7), none, []⟩,
           ⟨some 21, .ia 6 (.t 19) (.t 20), none, [1, 2]⟩,
           ⟨some 22, .load true 6 (.t 21), none, [3]⟩,
           ⟨some 23, .bslice 31 6 1 [.v (.int .i64 0), .v (.int .i64 0), .v (.int .i64 0), .v (.bool false), .v (.string ⟨#[]⟩), .v (.int .i64 0)] [(0, (.t 22))], none, [4]⟩,
           ⟨some 24, .append 31 6 56 (.t 18) (.t 23), none, [0, 5]⟩,
           ⟨some 5, .mov (.t 24), none, [6, 6, 0, 1, 2, 3, 4, 5, 6]⟩]) (
        ACode.reg false [⟨some 25, .mov (.t 7), none, []⟩,
          ⟨some 26, .bin .add 3 (.t 25) (.c (.v (.int .i64 1))), none, [0]⟩,
          ⟨some 7, .mov (.t 26), none, [1, 0, 1]⟩]))))))))))) (
 ACode.seq (
  ACode.reg false [⟨some 76, .mov (.t 5), none, []⟩,
    ⟨some 4, .mov (.t 76), none, [0, 0]⟩]) (
 ACode.ret))))),
 [.tmp 4], 77⟩

/-- semvcs/ident.based -/
def a32 : AFn := ⟨
 ACode.seq (
  ACode.reg false [⟨some 2, .mov (.c (.v (.bool false))), none, []⟩]) (
 ACode.seq (
  ACode.reg false [⟨some 3, .mov (.t 0), none, []⟩,
    ⟨some 4, .bin .shr 3 (.t 3) (.c (.v (.int .u64 20))), none, [0]⟩,
    ⟨some 5, .bin .geq 3 (.t 4) (.c (.v (.int .i64 1))), none, [1]⟩,
    ⟨some 6, .mov (.t 5), none, [2]⟩,
    ⟨some 7, .mov (.t 0), some (6, true), [3]⟩,
    ⟨some 8, .bin .shr 3 (.t 7) (.c (.v (.int .u64 20))), some (6, true), [4, 3]⟩,
    ⟨some 9, .bin .leq 3 (.t 8) (.c (.v (.int .i64 32))), some (6, true), [5, 3]⟩,
    ⟨some 10, .pick (.t 6) (.t 9) (.c (.v (.bool false))), none, [3, 6]⟩,
    ⟨some 2, .mov (.t 10), none, [7, 3, 0, 1, 2, 3, 4, 5, 6, 7]⟩]) (
 ACode.ret)),
 [.tmp 2], 11⟩

/-- cmp.Compare[int] -/
def a33 : AFn := ⟨
 ACode.seq (
  ACode.reg false [⟨some 4, .mov (.c (.v (.int .i64 0))), none, []⟩]) (
 ACode.seq (
  ACode.reg false [⟨some 7, .mov (.t 0), none, []⟩,
    ⟨some 8, .call 34 [(.t 7)], none, [0]⟩,
    ⟨some 5, .mov (.t 8), none, [1, 1, 0, 1]⟩]) (
 ACode.seq (
  ACode.reg false [⟨some 9, .mov (.t 1), none, []⟩,
    ⟨some 10, .call 34 [(.t 9)], none, [0]⟩,
    ⟨some 6, .mov (.t 10), none, [1, 1, 0, 1]⟩]) (
 ACode.seq (
  ACode.seq (
   ACode.reg false [⟨some 11, .mov (.t 5), none, []⟩]) (
  ACode.cond (.t 11) (
   ACode.seq (
    ACode.seq (
     ACode.reg false [⟨some 12, .mov (.t 6), none, []⟩]) (
    ACode.cond (.t 12) (
     ACode.seq (
      ACode.reg false [⟨some 4, .mov (.c (.v (.int .i64 0))), none, []⟩]) (
     ACode.ret)) (
     ACode.skip))) (
   ACode.seq (
    ACode.reg false [⟨some 4, .mov (.c (.v (.int .i64 (-1)))), none, []⟩]) (
   ACode.ret))) (
   ACode.skip))) (
 ACode.seq (
  ACode.seq (
   ACode.reg false [⟨some 13, .mov (.t 6), none, []⟩]) (
  ACode.cond (.t 13) (
   ACode.seq (
    ACode.reg false [⟨some 4, .mov (.c (.v (.int .i64 1))), none, []⟩]) (
   ACode.ret)) (
   ACode.skip))) (
 ACode.seq (
  ACode.seq (
   ACode.reg false [⟨some 14, .mov (.t 0), none, []⟩,
     ⟨some 15, .mov (.t 1), none, []⟩,
     ⟨some 16, .bin .lss 3 (.t 14) (.t 15), none, [0, 1]⟩]) (
  ACode.cond (.t 16) (
   ACode.seq (
    ACode.reg false [⟨some 4, .mov (.c (.v (.int .i64 (-1)))), none, []⟩]) (
   ACode.ret)) (
   ACode.skip))) (
 ACode.seq (
  ACode.seq (
   ACode.reg false [⟨some 17, .mov (.t 0), none, []⟩,
     ⟨some 18, .mov (.t 1), none, []⟩,
     ⟨some 19, .bin .gtr 3 (.t 17) (.t 18), none, [0, 1]⟩]) (
  ACode.cond (.t 19) (
   ACode.seq (
    ACode.reg false [⟨some 4, .mov (.c (.v (.int .i64 1))), none, []⟩]) (
   ACode.ret)) (
   ACode.skip))) (
 ACode.seq (
  ACode.reg false [⟨some 4, .mov (.c (.v (.int .i64 0))), none, []⟩]) (
 ACode.ret)))))))),
 [.tmp 4], 20⟩

/-- cmp.isNaN[int] -/
def a34 : AFn := ⟨
 ACode.seq (
  ACode.reg false [⟨some 2, .mov (.c (.v (.bool false))), none, []⟩]) (
 ACode.seq (
  ACode.reg false [⟨some 3, .mov (.t 0), none, []⟩,
    ⟨some 4, .mov (.t 0), none, []⟩,
    ⟨some 5, .bin .neq 3 (.t 3) (.t 4), none, [0, 1]⟩,
    ⟨some 2, .mov (.t 5), none, [2, 0, 1, 2]⟩]) (
 ACode.ret)),
 [.tmp 2], 6⟩

theorem a3_ok : compFn Try.prog Try.f3 = some a3 := by kernel_rfl
theorem a4_ok : compFn Try.prog Try.f4 = some a4 := by kernel_rfl
theorem a5_ok : compFn Try.prog Try.f5 = some a5 := by kernel_rfl
theorem a6_ok : compFn Try.prog Try.f6 = some a6 := by kernel_rfl
theorem a7_ok : compFn Try.prog Try.f7 = some a7 := by kernel_rfl
theorem a8_ok : compFn Try.prog Try.f8 = some a8 := by kernel_rfl
theorem a9_ok : compFn Try.prog Try.f9 = some a9 := by kernel_rfl
theorem a10_ok : compFn Try.prog Try.f10 = some a10 := by kernel_rfl
theorem a11_ok : compFn Try.prog Try.f11 = some a11 := by kernel_rfl
theorem a12_ok : compFn Try.prog Try.f12 = some a12 := by kernel_rfl
theorem a13_ok : compFn Try.prog Try.f13 = some a13 := by kernel_rfl
theorem a14_ok : compFn Try.prog Try.f14 = some a14 := by kernel_rfl
theorem a15_ok : compFn Try.prog Try.f15 = some a15 := by kernel_rfl
theorem a16_ok : compFn Try.prog Try.f16 = some a16 := by kernel_rfl
theorem a17_ok : compFn Try.prog Try.f17 = some a17 := by kernel_rfl
theorem a18_ok : compFn Try.prog Try.f18 = some a18 := by kernel_rfl
theorem a19_ok : compFn Try.prog Try.f19 = some a19 := by kernel_rfl
theorem a20_ok : compFn Try.prog Try.f20 = some a20 := by kernel_rfl
theorem a21_ok : compFn Try.prog Try.f21 = some a21 := by kernel_rfl
theorem a22_ok : compFn Try.prog Try.f22 = some a22 := by kernel_rfl
theorem a23_ok : compFn Try.prog Try.f23 = some a23 := by kernel_rfl
theorem a24_ok : compFn Try.prog Try.f24 = some a24 := by kernel_rfl
theorem a25_ok : compFn Try.prog Try.f25 = some a25 := by kernel_rfl
theorem a26_ok : compFn Try.prog Try.f26 = some a26 := by kernel_rfl
theorem a27_ok : compFn Try.prog Try.f27 = some a27 := by kernel_rfl
theorem a28_ok : compFn Try.prog Try.f28 = some a28 := by kernel_rfl
theorem a29_ok : compFn Try.prog Try.f29 = some a29 := by kernel_rfl
theorem a30_ok : compFn Try.prog Try.f30 = some a30 := by kernel_rfl
theorem a31_ok : compFn Try.prog Try.f31 = some a31 := by kernel_rfl
theorem a32_ok : compFn Try.prog Try.f32 = some a32 := by kernel_rfl
theorem a33_ok : compFn Try.prog Try.f33 = some a33 := by kernel_rfl
theorem a34_ok : compFn Try.prog Try.f34 = some a34 := by kernel_rfl
theorem mixed : Try.prog.follows .mixedOrders = true := by kernel_rfl
end Go.Proofs.Ythbkdnojneffdaa
